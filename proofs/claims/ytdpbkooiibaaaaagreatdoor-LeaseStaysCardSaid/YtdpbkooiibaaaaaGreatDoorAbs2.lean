/- The walk over abstract states. -/
import Derived.Test.YtdpbkooiibaaaaaGreatDoorAbs1
import Derived.MapKept
import Derived.Maps.RangeRun
import Derived.Laws.MakeOwn
import Derived.Laws.Slices
import Derived.OrdersIn

set_option linter.unusedVariables false
set_option linter.unusedSimpArgs false
/-! SoundM -/
/- Maps. -/
namespace Go.Abs
open Go.RowKit

variable {P : Program} {G : Nat → Option (List V)}

theorem rep_im' {w : World} {e : Env} {v u : Value} (h : Rep w e (.im v) u) : u = v := by
  cases h with
  | im => rfl

theorem mapOf_some {t k e : TypeId} (h : mapOf P t = some (k, e)) : P.underlying t = some (.map k e) := by
  unfold mapOf at h
  split at h
  · simp only [Option.some.injEq, Prod.mk.injEq] at h
    obtain ⟨rfl, rfl⟩ := h
    assumption
  · cases h

/-- What is asked of a key: it may be one; it is found as it is looked for. -/
structure KeyAt (P : Program) (kt : TypeId) (k : V) (w : World) (e : Env) (u : Value) : Prop where
  check : ∀ b w, (Instr.checkKey b 10000 kt u).run P w = .ok () w
  stays : ∀ w, (Instr.keyThatStays u u).run P w = .ok u w
  find : ∀ (K : Option (Nat × V) → Prop) (es : List (V × V)) (ms : List MapEntry), es.length = ms.length →
      (∀ (n : Nat) (x : V × V) (m : MapEntry), es[n]? = some x → ms[n]? = some m → Rep w e x.1 m.key ∧ Rep w e x.2 m.val) → evFind k K es 0 →
      (K none ∧ ∀ w, (Instr.findKey kt u ms).run P w = .ok none w) ∨
      ∃ (n : Nat) (x : V × V) (m : MapEntry), es[n]? = some x ∧ ms[n]? = some m ∧ m.key = u ∧ K (some (n, x.2)) ∧ ∀ w, (Instr.findKey kt u ms).run P w = .ok (some (n, m.val)) w

theorem keyEq_now {w : World} {e : Env} {d : TypeDesc} {k x : V} {u ux : Value} {b : Bool} (hd : MapKept.IsKey d u) (h : keyEq k x = some b) (r1 : Rep w e k u) (r2 : Rep w e x ux) :
    Instr.sameNow d u ux = some b ∧ (b = true → ux = u) := by
  obtain ⟨r, hr, hiff⟩ : ∃ r, (b = true ↔ u = ux) ∧ MapKept.IsKey d ux ∧ r = b := by
    unfold keyEq at h
    split at h
    · rename_i q a q' c
      have h1 := rep_im' r1
      have h2 := rep_im' r2
      subst h1; subst h2
      split at h
      · rename_i hq
        subst hq
        simp only [Option.some.injEq] at h
        subst h
        refine ⟨_, by simp, ?_, rfl⟩
        cases d <;> simp_all [MapKept.IsKey]
      · cases h
    · rename_i a c
      have h1 := rep_im' r1
      have h2 := rep_im' r2
      subst h1; subst h2
      simp only [Option.some.injEq] at h
      subst h
      refine ⟨_, by simp, ?_, rfl⟩
      cases d <;> simp_all [MapKept.IsKey]
    · rename_i a c
      cases r1 with
      | str =>
        cases r2 with
        | str =>
          simp only [Option.some.injEq] at h
          subst h
          refine ⟨_, by simp, ?_, rfl⟩
          cases d <;> simp_all [MapKept.IsKey]
    · cases r1 with
      | agg => cases d <;> simp_all [MapKept.IsKey]
    · cases h
  obtain ⟨r', hr', hiff'⟩ := MapKept.sameNow_of_keys hd hiff.1
  have hrb : r' = b := by
    cases r' <;> cases b <;> simp_all
  rw [hrb] at hr'
  exact ⟨hr', fun hb => (hr.1 hb).symm⟩

theorem evFind_spec {w : World} {e : Env} {d : TypeDesc} {k : V} {u : Value} (hd : MapKept.IsKey d u) (hu : Rep w e k u) {K : Option (Nat × V) → Prop} :
    ∀ (es : List (V × V)) (ms : List MapEntry) (i : Nat), es.length = ms.length →
      (∀ (n : Nat) (x : V × V) (m : MapEntry), es[n]? = some x → ms[n]? = some m → Rep w e x.1 m.key ∧ Rep w e x.2 m.val) → evFind k K es i →
      (K none ∧ Instr.findNow d u ms i = some none) ∨
      ∃ (n : Nat) (x : V × V) (m : MapEntry), es[n]? = some x ∧ ms[n]? = some m ∧ m.key = u ∧ K (some (i + n, x.2)) ∧ Instr.findNow d u ms i = some (some (i + n, m.val)) := by
  intro es
  induction es with
  | nil =>
    intro ms i hl hrep h
    cases ms with
    | nil => exact .inl ⟨h, rfl⟩
    | cons m ms => cases hl
  | cons x es ih =>
    intro ms i hl hrep h
    cases ms with
    | nil => cases hl
    | cons m ms =>
      have h0 := hrep 0 x m rfl rfl
      unfold evFind at h
      split at h
      · rename_i b hb
        obtain ⟨hnow, hsame⟩ := keyEq_now hd hb hu h0.1
        cases b with
        | true =>
          right
          exact ⟨0, x, m, rfl, rfl, hsame rfl, h.1 rfl, by simp [Instr.findNow, hnow]⟩
        | false =>
          rcases ih ms (i + 1) (by simpa using hl) (fun n y m' hy hm => hrep (n + 1) y m' (by simpa using hy) (by simpa using hm)) (h.2 rfl) with ⟨h1, h2⟩ | ⟨n, y, m', h1, h2, h3, h4, h5⟩
          · exact .inl ⟨h1, by simp [Instr.findNow, hnow, h2]⟩
          · refine .inr ⟨n + 1, y, m', by simpa using h1, by simpa using h2, h3, ?_, ?_⟩
            · rw [show i + (n + 1) = i + 1 + n by omega]; exact h4
            · rw [show i + (n + 1) = i + 1 + n by omega]; simp [Instr.findNow, hnow, h5]
      · exact h.elim

/-- A plain key. -/
theorem keyAt_plain {w : World} {e : Env} {kt : TypeId} {d : TypeDesc} {k : V} {u : Value} (hd : P.underlying kt = some d) (hk : MapKept.IsKey d u) (hr : Rep w e k u) : KeyAt P kt k w e u where
  check := fun b w => MapKept.run_checkKey hd hk b 9999
  stays := fun w => MapKept.run_keyThatStays hk
  find := fun K es ms hl hrep h => by
    rcases evFind_spec hk hr es ms 0 hl hrep h with ⟨h1, h2⟩ | ⟨n, x, m, h1, h2, h3, h4, h5⟩
    · exact .inl ⟨h1, fun w => MapKept.run_findKey hd h2⟩
    · rw [Nat.zero_add] at h4 h5
      exact .inr ⟨n, x, m, h1, h2, h3, h4, fun w => MapKept.run_findKey hd h5⟩

theorem rep_pair {w : World} {e : Env} {a b u : Value} (h : Rep w e (.agg [.im a, .im b]) u) : u = .agg #[a, b] := by
  cases h with
  | agg _ us hl hh =>
    have h0 := hh 0 (.im a) (us[0]'(by simp at hl; omega)) rfl (Array.getElem?_eq_getElem (by simp at hl; omega))
    have h1 := hh 1 (.im b) (us[1]'(by simp at hl; omega)) rfl (Array.getElem?_eq_getElem (by simp at hl; omega))
    have h0 := rep_im' h0
    have h1 := rep_im' h1
    congr 1
    refine Array.ext (by simpa using hl.symm) fun i hi hi' => ?_
    have : i = 0 ∨ i = 1 := by simp at hi'; omega
    rcases this with rfl | rfl
    · exact h0
    · exact h1

theorem keyEq_pair {q : IntKind} {a b : Int} {x : V} {r : Bool} (h : keyEq (.agg [.im (.int q a), .im (.int q b)]) x = some r) : ∃ a' b', x = .agg [.im (.int q a'), .im (.int q b')] ∧ r = (decide (a = a') && decide (b = b')) := by
  unfold keyEq at h
  split at h
  · contradiction
  · contradiction
  · contradiction
  · rename_i k1 a1 l1 b1 k1' a1' l1' b1' e1
    simp only [V.agg.injEq, List.cons.injEq, V.im.injEq, Value.int.injEq, and_true] at e1
    obtain ⟨⟨rfl, rfl⟩, hq, rfl⟩ := e1
    subst hq
    split at h
    · rename_i hkk
      obtain ⟨rfl, hkk⟩ := hkk
      subst hkk
      simp only [Option.some.injEq] at h
      exact ⟨_, _, rfl, h.symm⟩
    · cases h
  · cases h

/-- A key of two ints. -/
theorem keyAt_pair {w : World} {e : Env} {kt el : TypeId} {q : IntKind} {a b : Int} (hd : P.underlying kt = some (.array 2 el)) (hel : P.underlying el = some (.int q)) (hsz : (P.info? el).map (·.size) = some 1) :
    KeyAt P kt (.agg [.im (.int q a), .im (.int q b)]) w e (.agg #[.int q a, .int q b]) where
  check := fun bb w => by
    obtain ⟨i, hi, hs⟩ := Option.map_eq_some_iff.1 hsz
    have hp : ∀ (j : Nat) (v : Value) (w : World), j < 2 → (#[Value.int q a, Value.int q b] : Array Value)[j]? = some v → (part el #[.int q a, .int q b] (j * 1)).run P w = .ok v w := by
      intro j v w hj hv
      have := run_part hi (by rw [hel]; rfl) #[.int q a, .int q b] (j * 1) (by rw [hs]; simp; omega) (fun _ => hs) w
      rw [this, hs]
      unfold mkV
      rw [hel]
      have : j = 0 ∨ j = 1 := by omega
      rcases this with rfl | rfl <;> simp at hv <;> subst hv <;> rfl
    have hck : ∀ (n : Nat) (x : Int) (w : World), (Instr.checkKey bb (n + 1) el (.int q x)).run P w = .ok () w := fun n x w => MapKept.run_checkKey hel (by simp [MapKept.IsKey]) bb n
    have hsz' : ∀ w : World, (Go.sizeOf el).run P w = .ok 1 w := fun w => by
      have := run_sizeOf' (P := P) hi (w := w)
      rw [hs] at this
      exact this
    show (Instr.checkKey bb (9999 + 1) kt _).run P w = _
    unfold Instr.checkKey
    simp only [Sem.run_bind, run_underlying' hd, Result.andThen]
    have h0 := hp 0 (.int q a) w (by omega) rfl
    have h1 := hp 1 (.int q b) w (by omega) rfl
    simp only [Std.Legacy.Range.forIn_eq_forIn_range', Std.Legacy.Range.size, Nat.sub_zero, Nat.add_sub_cancel, Nat.div_one, List.range'_succ, List.range'_zero, List.forIn_cons, List.forIn_nil, Sem.run_bind, hsz', Result.andThen, h0, h1, Nat.zero_add, hck 9998, Sem.run_pure]
  stays := fun w => by
    simp [Instr.keyThatStays, Instr.sameBits]
  find := fun K es ms hl hrep h => by
    have hks : flatEq P 50 kt = some [.i, .i] := by
      have h1 : flatEq P 49 el = some [.i] := by
        show flatEq P (48 + 1) el = _
        unfold flatEq
        rw [hel]
      show flatEq P (49 + 1) kt = _
      unfold flatEq
      rw [hd]
      simp only [h1, Option.bind_some]
      rw [if_pos ⟨by decide, hsz⟩]
      rfl
    have ask : ∀ (es : List (V × V)) (ms : List MapEntry) (i : Nat), es.length = ms.length →
        (∀ (n : Nat) (x : V × V) (m : MapEntry), es[n]? = some x → ms[n]? = some m → Rep w e x.1 m.key ∧ Rep w e x.2 m.val) → evFind (.agg [.im (.int q a), .im (.int q b)]) K es i →
        (K none ∧ ∀ w, (Instr.findAsking kt (.agg #[.int q a, .int q b]) ms i).run P w = .ok none w) ∨
        ∃ (n : Nat) (x : V × V) (m : MapEntry), es[n]? = some x ∧ ms[n]? = some m ∧ m.key = .agg #[.int q a, .int q b] ∧ K (some (i + n, x.2)) ∧ ∀ w, (Instr.findAsking kt (.agg #[.int q a, .int q b]) ms i).run P w = .ok (some (i + n, m.val)) w := by
      intro es
      induction es with
      | nil =>
        intro ms i hl hrep h
        cases ms with
        | nil => exact .inl ⟨h, fun w => rfl⟩
        | cons m ms => cases hl
      | cons x es ih =>
        intro ms i hl hrep h
        cases ms with
        | nil => cases hl
        | cons m ms =>
          obtain ⟨x1, x2⟩ := x
          have h0 := hrep 0 (x1, x2) m rfl rfl
          unfold evFind at h
          split at h
          · rename_i r hb
            simp only at hb
            obtain ⟨a1', b1', rfl, hb2⟩ := keyEq_pair hb
            have hmk := rep_pair h0.1
            have hmkv : ∀ us : List Value, mkV P kt us = .agg us.toArray := fun us => by unfold mkV; rw [hd]
            have heq : ∀ w, (Op.equal kt (.agg #[.int q a, .int q b]) m.key).run P w = .ok r w := by
              intro w
              have := (run_flatEq (P := P) 50 9950 kt [.i, .i] hks [.int q a, .int q b] [.int q a1', .int q b1'] r w (by
                rw [hb2]
                simp [valsEq, valEq]
                try rfl)).1
              rw [hmkv, hmkv] at this
              rw [hmk]
              exact this
            cases r with
            | true =>
              right
              have hb3 := hb2.symm
              simp only [Bool.and_eq_true, decide_eq_true_eq] at hb3
              refine ⟨0, (_, x2), m, rfl, rfl, by rw [hmk, hb3.1, hb3.2], h.1 rfl, fun w => ?_⟩
              simp [Instr.findAsking, Sem.run_bind, heq, Result.andThen]
            | false =>
              rcases ih ms (i + 1) (by simpa using hl) (fun n y m' hy hm => hrep (n + 1) y m' (by simpa using hy) (by simpa using hm)) (h.2 rfl) with ⟨h1, h2⟩ | ⟨n, y, m', h1, h2, h3, h4, h5⟩
              · exact .inl ⟨h1, fun w => by simp [Instr.findAsking, Sem.run_bind, heq, Result.andThen, h2]⟩
              · refine .inr ⟨n + 1, y, m', by simpa using h1, by simpa using h2, h3, ?_, fun w => ?_⟩
                · rw [show i + (n + 1) = i + 1 + n by omega]; exact h4
                · rw [show i + (n + 1) = i + 1 + n by omega]
                  simp [Instr.findAsking, Sem.run_bind, heq, Result.andThen, h5]
          · exact h.elim
    cases ms with
    | nil =>
      cases es with
      | nil =>
        refine .inl ⟨h, fun w => ?_⟩
        simp [Instr.findKey, run_underlying' hd, Result.andThen, Instr.findNow]
      | cons x es => cases hl
    | cons m ms =>
      have hfk : ∀ w, (Instr.findKey kt (.agg #[.int q a, .int q b]) (m :: ms)).run P w = (Instr.findAsking kt (.agg #[.int q a, .int q b]) (m :: ms) 0).run P w := fun w => by
        simp [Instr.findKey, run_underlying' hd, Result.andThen, Instr.findNow, Instr.sameNow]
      rcases ask es (m :: ms) 0 hl hrep h with ⟨h1, h2⟩ | ⟨n, x, m', h1, h2, h3, h4, h5⟩
      · exact .inl ⟨h1, fun w => by rw [hfk, h2]⟩
      · rw [Nat.zero_add] at h4
        refine .inr ⟨n, x, m', h1, h2, h3, h4, fun w => ?_⟩
        rw [hfk, h5, Nat.zero_add]

theorem isIntOf_spec {el : TypeId} {q : IntKind} (h : isIntOf P el q = true) : P.underlying el = some (.int q) ∧ (P.info? el).map (·.size) = some 1 := by
  unfold isIntOf at h
  split at h
  · rename_i q' i h1 h2
    simp only [Bool.and_eq_true, decide_eq_true_eq, Nat.beq_eq] at h
    rw [h1, h2, h.1]
    exact ⟨rfl, by simp [h.2]⟩
  · cases h

theorem keyTy_spec {w : World} {e : Env} {kt : TypeId} {k : V} {u : Value} (h : keyTy P kt k = true) (hr : Rep w e k u) : KeyAt P kt k w e u := by
  unfold keyTy at h
  split at h
  · rename_i q q' a hd
    have := rep_im' hr
    subst this
    exact keyAt_plain hd (by simp only [decide_eq_true_eq] at h; simp [MapKept.IsKey, h]) hr
  · rename_i b hd
    have := rep_im' hr
    subst this
    exact keyAt_plain hd (by simp [MapKept.IsKey]) hr
  · rename_i l hd
    cases hr with
    | str => exact keyAt_plain hd (by simp [MapKept.IsKey]) (.str _)
  · rename_i el q a q' b hd
    simp only [Bool.and_eq_true, decide_eq_true_eq] at h
    obtain ⟨h1, rfl⟩ := h
    obtain ⟨h2, h3⟩ := isIntOf_spec h1
    have := rep_pair hr
    subst this
    exact keyAt_pair hd h2 h3
  · cases h

theorem mp_inv {w : World} {e : Env} {id : Nat} {u : Value} (h : Rep w e (.mp id) u) : u = .map (some (e.ρ id)) ∧ id < e.N := by
  cases h with
  | mp id hid => exact ⟨rfl, hid⟩

theorem op_makeMap {o : Oper} {σ : St} {a : Act} {w : World} {e : Env} {k : V → St → Prop} (h : RSt G σ a w e) (t : TypeId) (ho : o.op = .makeMap t none) (hk : evOp P G o σ k) :
    OpDone P G o σ a w e k := by
  simp only [evOp, ho] at hk
  have hb : RepBlk (w.alloc (.map #[] 0)) (e.push w.heap.size) w.heap.size (.map [] 0) :=
    .map [] #[] 0 (World.alloc_heap_new w _) rfl ⟨rfl, fun i m hm => by simp at hm⟩ fun i x m hx => by simp at hx
  refine ⟨.map (some w.heap.size), _, _, _, e.push w.heap.size, .inl ?_, hk, rfl, h.push _ _ hb, ⟨?_, trivial⟩, (h.heap.push _ _ hb).2⟩
  · simp only [execOp, ho]
    exact run_value rfl
  · have := Rep.mp (w := w.alloc (.map #[] 0)) (e := e.push w.heap.size) e.N (by simp [Env.push])
    rw [Env.push_new, h.heap.len] at this
    exact this

theorem born_push {ms : Array MapEntry} {clock : Nat} {key val : Value} (hc : clock = ms.size ∧ ∀ (i : Nat) (m : MapEntry), ms[i]? = some m → m.born = i) :
    clock + 1 = (ms.push { key, val, born := clock }).size ∧ ∀ (i : Nat) (m : MapEntry), (ms.push { key, val, born := clock })[i]? = some m → m.born = i := by
  refine ⟨by simp [hc.1], fun i m hm => ?_⟩
  rw [Array.getElem?_push] at hm
  split at hm
  · rename_i hi
    simp only [Option.some.injEq] at hm
    subst hm
    rw [hi]
    exact hc.1
  · exact hc.2 i m hm

theorem op_insert {o : Oper} {σ : St} {a : Act} {w : World} {e : Env} {k : V → St → Prop} (h : RSt G σ a w e) (t : TypeId) (m x y : Operand) (ho : o.op = .mapUpdate t m x y ∨ o.op = .insert t m x y) (hk : evOp P G o σ k) :
    OpDone P G o σ a w e k := by
  have hk : evInsert P t (σ.ev x) (σ.ev y) σ (fun σ' => k (.tup []) σ') (σ.ev m) := by
    rcases ho with ho | ho <;> simpa only [evOp, ho] using hk
  have hex : execOp a.eval o = (do Instr.mapUpdate t (a.eval m) (a.eval x) (a.eval y); pure Next.skip) := by
    rcases ho with ho | ho <;> simp only [execOp, ho] <;> rfl
  have hm := (h.ev m).1
  have hx := (h.ev x).1
  have hy := (h.ev y).1
  generalize a.eval m = um at hm hex
  generalize a.eval x = ux at hx hex
  generalize a.eval y = uy at hy hex
  generalize σ.ev m = vm at hk hm
  generalize σ.ev x = vx at hk hx
  generalize σ.ev y = vy at hk hy
  cases vm with
  | mp id =>
    simp only [evInsert] at hk
    split at hk
    · rename_i es c kt et hH hmo
      obtain ⟨hty, hk⟩ := hk
      obtain ⟨rfl, hid⟩ := mp_inv hm
      have hun := mapOf_some hmo
      have hkey := keyTy_spec hty hx
      have hlive : live σ.H id := ⟨_, hH⟩
      have hblk := h.heap.blk id _ hH
      cases hblk with
      | map es ms c hb hl hc hrep =>
        rcases hkey.find _ es ms.toList (by simpa using hl) (fun n z m' hz hm' => hrep n z m' hz (by simpa using hm')) hk with ⟨hk, hnow⟩ | ⟨n, z, m', hz, hm', hmk, hk, hnow⟩
        · obtain ⟨mo, hH', hx'⟩ := h.heap.setBlk hlive (w' := { w with heap := w.heap.setIfInBounds (e.ρ id) (.map (ms.push { key := ux, val := uy, born := c }) (c + 1)) }) (.map (es ++ [(vx, vy)]) (c + 1))
            (fun r hr => (MapKept.heap_set hb).2 r hr) (by simp) ⟨rfl, rfl, rfl⟩ (fun mo => by
              refine .map _ _ _ (MapKept.heap_set hb).1 (by simp [hl]) (born_push hc) fun i p q hp hq => ?_
              rw [Array.getElem?_push] at hq
              split at hq
              · rename_i hi
                simp only [Option.some.injEq] at hq
                subst hq
                rw [hi, ← hl, List.getElem?_append_right (Nat.le_refl _)] at hp
                simp at hp
                subst hp
                exact ⟨hx.mono mo, hy.mono mo⟩
              · rename_i hi
                have hlt : i < es.length := by
                  have := (Array.getElem?_eq_some_iff.1 hq).1
                  omega
                rw [List.getElem?_append_left hlt] at hp
                exact ⟨(hrep i p q hp hq).1.mono mo, (hrep i p q hp hq).2.mono mo⟩)
          refine ⟨undef, _, .tup [], _, e, .inr ⟨?_, rfl⟩, hk, rfl, h.setBlk mo hH', ⟨.tup [] #[] rfl (fun i v u h => by simp at h), trivial⟩, hx'⟩
          rw [hex, Sem.run_bind]
          simp [Instr.mapUpdate, run_underlying' hun, MapKept.run_getObj_map hb, hkey.check, hnow, MapKept.run_setObj_map _ hb, Result.andThen]
        · have hm2 : ms[n]? = some m' := by simpa using hm'
          skip
          obtain ⟨mo, hH', hx'⟩ := h.heap.setBlk hlive (w' := { w with heap := w.heap.setIfInBounds (e.ρ id) (.map (ms.modify n fun e => { e with key := ux, val := uy }) c) }) (.map (es.set n (vx, vy)) c)
            (fun r hr => (MapKept.heap_set hb).2 r hr) (by simp) ⟨rfl, rfl, rfl⟩ (fun mo => by
              have hget : ∀ (i : Nat) (q : MapEntry), (ms.modify n fun e => { e with key := ux, val := uy })[i]? = some q → ∃ q0, ms[i]? = some q0 ∧ q = if i = n then { q0 with key := ux, val := uy } else q0 := by
                intro i q hq
                rw [Array.getElem?_modify] at hq
                by_cases hin : n = i
                · rw [if_pos hin] at hq
                  obtain ⟨q0, hq0, rfl⟩ := Option.map_eq_some_iff.1 hq
                  exact ⟨q0, hq0, by rw [if_pos hin.symm]⟩
                · rw [if_neg hin] at hq
                  exact ⟨q, hq, by rw [if_neg fun h => hin h.symm]⟩
              refine .map _ _ _ (MapKept.heap_set hb).1 (by simp [hl]) ⟨by simp [hc.1], fun i q hq => ?_⟩ fun i p q hp hq => ?_
              · obtain ⟨q0, hq0, rfl⟩ := hget i q hq
                have := hc.2 i q0 hq0
                split <;> exact this
              · obtain ⟨q0, hq0, rfl⟩ := hget i q hq
                by_cases hin : i = n
                · subst hin
                  have hlt : i < es.length := by have := (List.getElem?_eq_some_iff.1 hz).1; omega
                  rw [List.getElem?_set_self hlt] at hp
                  simp only [Option.some.injEq] at hp
                  subst hp
                  rw [if_pos rfl]
                  exact ⟨hx.mono mo, hy.mono mo⟩
                · rw [List.getElem?_set_ne (fun h => hin h.symm)] at hp
                  rw [if_neg hin]
                  exact ⟨(hrep i p q0 hp hq0).1.mono mo, (hrep i p q0 hp hq0).2.mono mo⟩)
          refine ⟨undef, _, .tup [], _, e, .inr ⟨?_, rfl⟩, hk, rfl, h.setBlk mo hH', ⟨.tup [] #[] rfl (fun i v u h => by simp at h), trivial⟩, hx'⟩
          rw [hex, Sem.run_bind]
          simp [Instr.mapUpdate, run_underlying' hun, MapKept.run_getObj_map hb, hkey.check, hnow, hm2, hmk, hkey.stays, MapKept.run_setObj_map _ hb, Result.andThen]
    · exact hk.elim
  | _ => exact hk.elim

theorem zero1_some {t : TypeId} {z : V} (h : zero1 P t = some z) (w : World) : ∃ u, (zeroValue t).run P w = .ok u w ∧ ∀ w' e, RepF w' e z u := by
  unfold zero1 at h
  cases hi : P.info? t with
  | none => simp [hi] at h
  | some i =>
    cases hz : i.zero with
    | none => simp [hi, hz] at h
    | some v =>
      simp only [hi, hz, Option.bind_some] at h
      refine ⟨v, ?_, fun w' e => ?_⟩
      · unfold zeroValue
        rw [Sem.run_bind, run_typeInfo' hi]
        simp only [Result.andThen, hz]
        rfl
      · split at h
        · cases h
        · rename_i v' hv'
          simp only [Option.some.injEq] at h hv'
          subst hv'; subst h
          exact rep_absV w' e _
        · cases h

theorem tup2 {w : World} {e : Env} {v v' : V} {u u' : Value} (h : Rep w e v u) (h' : Rep w e v' u') : RepF w e (.tup [v, v']) (.tuple #[u, u']) :=
  ⟨.tup _ _ rfl fun i x y hx hy => by
    match i with
    | 0 => simp at hx hy; subst hx; subst hy; exact h
    | 1 => simp at hx hy; subst hx; subst hy; exact h'
    | i + 2 => simp at hx, trivial⟩
theorem tup3 {w : World} {e : Env} {v v' v2 : V} {u u' u2 : Value} (h : Rep w e v u) (h' : Rep w e v' u') (h2 : Rep w e v2 u2) : RepF w e (.tup [v, v', v2]) (.tuple #[u, u', u2]) :=
  ⟨.tup _ _ rfl fun i x y hx hy => by
    match i with
    | 0 => simp at hx hy; subst hx; subst hy; exact h
    | 1 => simp at hx hy; subst hx; subst hy; exact h'
    | 2 => simp at hx hy; subst hx; subst hy; exact h2
    | i + 3 => simp at hx, trivial⟩

theorem op_lookup {o : Oper} {σ : St} {a : Act} {w : World} {e : Env} {k : V → St → Prop} (h : RSt G σ a w e) (t : TypeId) (m x : Operand) (ok : Bool) (ho : o.op = .lookup t m x ok) (hk : evOp P G o σ k) :
    OpDone P G o σ a w e k := by
  simp only [evOp, ho] at hk
  have hex : execOp a.eval o = (do pure (Next.value (← Instr.lookup t (a.eval m) (a.eval x) ok))) := by
    simp only [execOp, ho]
  have hm := (h.ev m).1
  have hx := (h.ev x).1
  generalize a.eval m = um at hm hex
  generalize a.eval x = ux at hx hex
  generalize σ.ev m = vm at hk hm
  generalize σ.ev x = vx at hk hx
  cases vm with
  | mp id =>
    simp only [evLookup] at hk
    split at hk
    · rename_i es c kt et hH hmo
      split at hk
      · rename_i z hz
        obtain ⟨hty, hk⟩ := hk
        obtain ⟨rfl, hid⟩ := mp_inv hm
        have hun := mapOf_some hmo
        have hkey := keyTy_spec hty hx
        obtain ⟨zu, hzr, hzrep⟩ := zero1_some hz w
        have hblk := h.heap.blk id _ hH
        cases hblk with
        | map es ms c hb hl hc hrep =>
          have hck : ∀ b, (Instr.checkKey b 10000 kt ux).run P w = .ok () w := fun b => hkey.check b w
          rcases hkey.find _ es ms.toList (by simpa using hl) (fun n z m' hz hm' => hrep n z m' hz (by simpa using hm')) hk with ⟨hk, hnow⟩ | ⟨n, z', m', hz', hm', hmk, hk, hnow⟩
          · have hrun : (Instr.lookup t (.map (some (e.ρ id))) ux ok).run P w = .ok (if ok then .tuple #[zu, .bool false] else zu) w := by
              simp [Instr.lookup, run_underlying' hun, MapKept.run_getObj_map hb, hck, hnow, hzr, Result.andThen]
            cases ok with
            | true => exact opDone_pure h (u := .tuple #[zu, .bool false]) (by rw [hex]; exact run_value hrun) hk (tup2 (hzrep w e).1 (.im _))
            | false => exact opDone_pure h (u := zu) (by rw [hex]; exact run_value hrun) hk (hzrep w e).1.strip
          · have hv : Rep w e z'.2 m'.val := (hrep n z' m' hz' (by simpa using hm')).2
            have hrun : (Instr.lookup t (.map (some (e.ρ id))) ux ok).run P w = .ok (if ok then .tuple #[m'.val, .bool true] else m'.val) w := by
              simp [Instr.lookup, run_underlying' hun, MapKept.run_getObj_map hb, hck, hnow, Result.andThen]
            cases ok with
            | true => exact opDone_pure h (u := .tuple #[m'.val, .bool true]) (by rw [hex]; exact run_value hrun) hk (tup2 hv (.im _))
            | false => exact opDone_pure h (u := m'.val) (by rw [hex]; exact run_value hrun) hk hv.strip
      · exact hk.elim
    · exact hk.elim
  | _ => exact hk.elim

theorem op_range {o : Oper} {σ : St} {a : Act} {w : World} {e : Env} {k : V → St → Prop} (h : RSt G σ a w e) (t : TypeId) (x : Operand) (ho : o.op = .range t x) (hk : evOp P G o σ k) :
    OpDone P G o σ a w e k := by
  simp only [evOp, ho] at hk
  have hx := (h.ev x).1
  generalize hux : a.eval x = ux at hx
  generalize σ.ev x = vx at hk hx
  cases vx with
  | mp id =>
    simp only [evRange] at hk
    split at hk
    · rename_i es c y hH hmo
      obtain ⟨rfl, hid⟩ := mp_inv hx
      have hun := mapOf_some (k := y.1) (e := y.2) hmo
      have hblk := h.heap.blk id _ hH
      cases hblk with
      | map es ms c hb hl hc hrep =>
        have hρ : (e.push w.heap.size).ρ id = e.ρ id := (Mono.push h.heap (.mapIter (some (e.ρ id)) c #[] c) _).ρ id hid
        have hbk : RepBlk (w.alloc (.mapIter (some (e.ρ id)) c #[] c)) (e.push w.heap.size) w.heap.size (.iter id c c []) :=
          .iter id c c [] (by rw [hρ]; exact World.alloc_heap_new w _) (Nat.lt_of_lt_of_le hid (Mono.push h.heap (.mapIter (some (e.ρ id)) c #[] c) w.heap.size).N)
        refine ⟨.pointer (some ⟨w.heap.size, 0, none⟩), _, _, _, e.push w.heap.size, .inl ?_, hk, rfl, h.push _ _ hbk, ⟨?_, trivial⟩, (h.heap.push _ _ hbk).2⟩
        · simp only [execOp, ho, hux]
          exact run_value (run_range_map w t _ _ (e.ρ id) ms c hun hb)
        · have := Rep.ptr (w := w.alloc (.mapIter (some (e.ρ id)) c #[] c)) (e := e.push w.heap.size) e.N 0 (by simp [Env.push])
          rw [Env.push_new, h.heap.len] at this
          exact this
    · exact hk.elim
  | _ => exact hk.elim

theorem born_get {ms : Array MapEntry} {clock : Nat} (hc : clock = ms.size ∧ ∀ (i : Nat) (m : MapEntry), ms[i]? = some m → m.born = i) {m : MapEntry} (h : m ∈ ms.toList) : ms[m.born]? = some m := by
  obtain ⟨i, hi, rfl⟩ := List.getElem_of_mem h
  have hi' : i < ms.size := by simpa using hi
  have : ms[i]? = some ms.toList[i] := by simp [hi']
  rw [hc.2 i _ this]
  exact this

theorem born_nodup {ms : Array MapEntry} {clock : Nat} (hc : clock = ms.size ∧ ∀ (i : Nat) (m : MapEntry), ms[i]? = some m → m.born = i) : (ms.toList.map (·.born)).Nodup := by
  have : ms.toList.map (·.born) = List.range ms.size := by
    apply List.ext_getElem?
    intro i
    rw [List.getElem?_map]
    by_cases hi : i < ms.size
    · have h1 : ms.toList[i]? = some ms[i] := by simp [hi]
      rw [h1, List.getElem?_range hi]
      exact congrArg some (hc.2 i _ (Array.getElem?_eq_getElem hi))
    · have h1 : ms.toList[i]? = none := by simp; omega
      have h2 : (List.range ms.size)[i]? = none := by simp; omega
      rw [h1, h2]; rfl
  rw [this]
  exact List.nodup_range

theorem op_next {o : Oper} {σ : St} {a : Act} {w : World} {e : Env} {k : V → St → Prop} (h : RSt G σ a w e) (x : Operand) (ho : o.op = .next x false) (hk : evOp P G o σ k) :
    OpDone P G o σ a w e k := by
  simp only [evOp, ho] at hk
  have hx := (h.ev x).1
  generalize hux : a.eval x = ux at hx
  generalize σ.ev x = vx at hk hx
  unfold evNext at hk
  split at hk
  · rename_i id
    split at hk
    · rename_i m since stepped seen hH
      split at hk
      · rename_i es c hM
        obtain ⟨hcond, hk0, hk1⟩ := hk
        rw [Bool.and_eq_true, Nat.ble_eq, Nat.ble_eq] at hcond
        obtain ⟨rfl, hid⟩ := ptr_inv hx
        have hblk := h.heap.blk m _ hM
        have hit := h.heap.blk id _ hH
        cases hblk with
        | map es ms c hb hl hc hrep =>
        cases hit with
        | iter m since stepped seen hbi hmN =>
          have hold : ∀ x ∈ ms.toList, x.born < since := fun x hx => by
            have := born_get hc hx
            have := (Array.getElem?_eq_some_iff.1 this).1
            omega
          rcases run_next_at (P := P) w o.type (e.ρ id) (e.ρ m) since stepped seen.toArray ms c hbi hb hold hcond.2 with ⟨hleft, hrun⟩ | ⟨en, hen, w1, hw1, hrun⟩
          · refine opDone_pure h (u := .tuple #[.bool false]) (by simp only [execOp, ho, hux]; exact run_value hrun) (hk0 fun i hi => ?_) ⟨.tup _ _ rfl fun j v u hv hu => ?_, trivial⟩
            · have hi' : i < ms.size := by omega
              have hall : ∀ x ∈ ms.toList, seen.toArray.contains x.born = true := fun x hx => by
                by_cases hs : seen.toArray.contains x.born = true
                · exact hs
                · exfalso
                  have : x ∈ (leftOf ms seen.toArray).toList := by
                    unfold leftOf
                    simp only [Array.toList_filter, List.mem_filter, Bool.not_eq_true']
                    exact ⟨hx, by simpa using hs⟩
                  have hz : (leftOf ms seen.toArray).toList = [] := by
                    apply List.eq_nil_of_length_eq_zero
                    simpa using hleft
                  rw [hz] at this
                  cases this
              have := hall ms[i] (by simp)
              rw [hc.2 i _ (Array.getElem?_eq_getElem hi')] at this
              simpa using this
            · cases j with
              | zero => simp at hv hu; subst hv; subst hu; exact .im _
              | succ j => simp at hv
          · unfold leftOf at hen
            simp only [Array.toList_filter, List.mem_filter, Bool.not_eq_true'] at hen
            obtain ⟨hen, hns⟩ := hen
            have hg := born_get hc hen
            have hlt : en.born < es.length := by
              have := (Array.getElem?_eq_some_iff.1 hg).1
              omega
            have hns' : ¬ en.born ∈ seen := by simpa using hns
            have hrx := hrep en.born es[en.born] en (List.getElem?_eq_getElem hlt) hg
            have hk := hk1 en.born es[en.born] (List.getElem?_eq_getElem hlt) hns'
            have hlive : live σ.H id := ⟨_, hH⟩
            have hd : RSt G σ a w1 e ∧ Ext σ.H w e σ.H w1 e := by
              rcases hw1 with rfl | rfl
              · exact ⟨h, .refl _ _ _⟩
              · exact h.drew
            have hheap : w1.heap = w.heap := by rcases hw1 with rfl | rfl <;> rfl
            have hbi1 : w1.heap[e.ρ id]? = some (.mapIter (some (e.ρ m)) since seen.toArray stepped) := by rw [hheap]; exact hbi
            have hrx1 : Rep w1 e es[en.born].1 en.key ∧ Rep w1 e es[en.born].2 en.val := by
              rcases hw1 with rfl | rfl
              · exact hrx
              · exact ⟨hrx.1.mono (Mono.drew w e), hrx.2.mono (Mono.drew w e)⟩
            obtain ⟨mo, hH', hx'⟩ := hd.1.heap.setBlk hlive (w' := ChangeMaps.setBlock w1 (e.ρ id) (.mapIter (some (e.ρ m)) since (seen.toArray.push en.born) c)) (.iter m since c (seen ++ [en.born]))
              (fun r hr => (MapKept.heap_set hbi1).2 r hr) (by simp [ChangeMaps.setBlock]) ⟨rfl, rfl, rfl⟩ (fun mo => .iter m since c _ (by
                have h1 := (MapKept.heap_set (o' := .mapIter (some (e.ρ m)) since (seen.toArray.push en.born) c) hbi1).1
                simpa [ChangeMaps.setBlock] using h1) hmN)
            refine ⟨.tuple #[.bool true, en.key, en.val], _, _, _, e, .inl ?_, hk, rfl, hd.1.setBlk mo hH', tup3 (.im _) (hrx1.1.mono mo) (hrx1.2.mono mo), hd.2.trans hx'⟩
            simp only [execOp, ho, hux]
            exact run_value hrun
      · exact hk.elim
    · exact hk.elim
  · exact hk.elim

theorem op_entry {o : Oper} {σ : St} {a : Act} {w : World} {e : Env} {k : V → St → Prop} (h : RSt G σ a w e) (x : Operand) (ho : o.op = .entry x) (hk : evOp P G o σ k) :
    OpDone P G o σ a w e k := by
  simp only [evOp, ho] at hk
  have hx := (h.ev x).1
  generalize hux : a.eval x = ux at hx
  generalize σ.ev x = vx at hk hx
  unfold evEntry at hk
  split at hk
  · rename_i id
    split at hk
    · rename_i m since stepped seen hH
      split at hk
      · rename_i es c i hM hlast
        obtain ⟨hcond, hk⟩ := hk
        rw [Nat.beq_eq] at hcond
        split at hk
        · rename_i y hy
          obtain ⟨rfl, hid⟩ := ptr_inv hx
          have hblk := h.heap.blk m _ hM
          have hit := h.heap.blk id _ hH
          cases hblk with
          | map es ms c hb hl hc hrep =>
          cases hit with
          | iter m since stepped seen hbi hmN =>
            have hi : i < ms.size := by
              have := (List.getElem?_eq_some_iff.1 hy).1
              omega
            have hg : ms[i]? = some ms[i] := Array.getElem?_eq_getElem hi
            have hborn := hc.2 i _ hg
            obtain ⟨pre, rfl⟩ : ∃ pre, seen = pre ++ [i] := by
              rw [List.getLast?_eq_some_iff] at hlast
              exact hlast
            have hr := hrep i y ms[i] hy hg
            have hbi' : w.heap[e.ρ id]? = some (.mapIter (some (e.ρ m)) since (pre.toArray.push ms[i].born) c) := by
              rw [hbi, hborn, hcond]
              simp
            refine opDone_pure h (u := .tuple #[ms[i].key, ms[i].val]) (by simp only [execOp, ho, hux]; exact run_value (run_entry_at (P := P) w (e.ρ id) (e.ρ m) since pre.toArray ms c ms[i] hbi' hb (by simp) (born_nodup hc))) hk (tup2 hr.1 hr.2)
        · exact hk.elim
      · exact hk.elim
    · exact hk.elim
  · exact hk.elim
end Go.Abs

/-! SoundN -/
/- Slices of strings, rows and arrays; make. -/
namespace Go.Abs
open Go.RowKit

variable {P : Program} {G : Nat → Option (List V)}

theorem flatten_replicate_get {s : Nat} {z : List V} (hz : z.length = s) (hs : 0 < s) : ∀ (n j : Nat) (v : V), (List.replicate n z).flatten[j]? = some v → j < n * s ∧ z[j % s]? = some v
  | 0, j, v, h => by simp at h
  | n + 1, j, v, h => by
    rw [List.replicate_succ, List.flatten_cons] at h
    by_cases hj : j < s
    · rw [List.getElem?_append_left (by omega)] at h
      rw [Nat.mod_eq_of_lt hj, Nat.succ_mul]
      exact ⟨by omega, h⟩
    · rw [List.getElem?_append_right (by omega), hz] at h
      obtain ⟨h1, h2⟩ := flatten_replicate_get hz hs n (j - s) v h
      rw [Nat.succ_mul, Nat.mod_eq_sub_mod (by omega)]
      exact ⟨by omega, h2⟩

theorem op_make {o : Oper} {σ : St} {a : Act} {w : World} {e : Env} {k : V → St → Prop} (h : RSt G σ a w e) (t : TypeId) (x y : Operand) (ho : o.op = .makeSlice t x y) (hk : evOp P G o σ k) :
    OpDone P G o σ a w e k := by
  simp only [evOp, ho] at hk
  have hx := h.ev x
  have hy := h.ev y
  generalize hux : a.eval x = ux at hx
  generalize huy : a.eval y = uy at hy
  generalize σ.ev x = vx at hk hx
  generalize σ.ev y = vy at hk hy
  unfold evMake at hk
  split at hk
  · rename_i el s bytes k1 n1 k2 n2 hsl
    obtain ⟨i, hu, hi, rfl, rfl⟩ := slOf_some hsl
    split at hk
    · rename_i z hz
      obtain ⟨hzl, hs1, ⟨rfl, h0, hm, hb⟩, hk⟩ := hk
      obtain ⟨i', zv, hi', hzv, hzr⟩ := zeroOf_some hz
      rw [hi] at hi'
      simp only [Option.some.injEq] at hi'
      subst hi'
      have ex := rep_int hx
      have ey := rep_int hy
      subst ex; subst ey
      have hmb : maxBytes = 140737488355328 := rfl
      have hr := run_make (P := P) w t el i zv hu hi hzv k1 k2 n2 n2 h0 (Int.le_refl _) (by rw [hmb] at hb; omega) (by rw [hmb] at hm; omega)
      have hzsz : zv.cells.size = i.size := by have := (hzr w e).1; simp at this; omega
      have hfl : (List.replicate n2.toNat z).flatten.length ≤ (madeCells zv.cells (n2.toNat * i.size)).size := by
        rw [size_madeCells, flatten_length (s := i.size) (fun r hr => by rw [List.eq_of_mem_replicate hr]; exact hzl), List.length_replicate]
        exact Nat.le_refl _
      have hb : RepBlk (w.alloc (.cells (madeCells zv.cells (n2.toNat * i.size)) el)) (e.push w.heap.size) w.heap.size (.cells el (List.replicate n2.toNat z).flatten) := by
        refine .cells el _ _ (World.alloc_heap_new w _) hfl fun j v u hv hu => ?_
        obtain ⟨hj, hzj⟩ := flatten_replicate_get hzl hs1 _ j v hv
        refine (hzr _ _).2 (j % i.size) v u hzj ?_
        have hlt : j % i.size < zv.cells.size := by rw [hzsz]; exact Nat.mod_lt _ hs1
        have hsz2 : (madeCells zv.cells (n2.toNat * i.size)).size = n2.toNat * i.size := size_madeCells _ _
        have hu2 : (madeCells zv.cells (n2.toNat * i.size))[j]? = some (zv.cells[j % zv.cells.size]!) := by
          unfold madeCells
          rw [Array.getElem?_map, Array.getElem?_range]
          simp [hj]
        rw [hu2, hzsz] at hu
        simp only [Option.some.injEq] at hu
        rw [← hu, Array.getElem?_toList, Array.getElem!_eq_getD, Array.getElem?_eq_getElem hlt]
        simp [Array.getD, hlt]
      refine ⟨.slice (some ⟨w.heap.size, 0, none⟩) n2.toNat n2.toNat, _, _, _, e.push w.heap.size, .inl ?_, hk, rfl, h.push _ _ hb, ⟨?_, trivial⟩, (h.heap.push _ _ hb).2⟩
      · simp only [execOp, ho, hux, huy]
        exact run_value hr
      · have := Rep.arr (w := w.alloc (.cells (madeCells zv.cells (n2.toNat * i.size)) el)) (e := e.push w.heap.size) e.N i.size n2.toNat n2.toNat (by simp [Env.push]) (Nat.le_refl _)
        rw [Env.push_new, h.heap.len] at this
        exact this
    · exact hk.elim
  · exact hk.elim

theorem bnd_some {d : Int} {v : Option V} {n : Int} (h : bnd d v = some n) : (v = none ∧ n = d) ∨ ∃ k, v = some (.im (.int k n)) := by
  unfold bnd at h
  split at h
  · simp only [Option.some.injEq] at h
    exact .inl ⟨rfl, h.symm⟩
  · rename_i k m
    simp only [Option.some.injEq] at h
    subst h
    exact .inr ⟨k, rfl⟩
  · cases h

/-- What the machine makes of the bounds. -/
theorem run_bounds {σ : St} {a : Act} {w : World} {e : Env} (h : RSt G σ a w e) (is : Bool) (len cap : Nat) (lo hi : Option Operand) {x y : Int} (hx : bnd 0 (lo.map σ.ev) = some x) (hy : bnd len (hi.map σ.ev) = some y)
    (h0 : 0 ≤ x) (h1 : x ≤ y) (h2 : y ≤ len) (hc : len ≤ cap) : (Instr.sliceBounds is len cap (lo.map a.eval) (hi.map a.eval) none).run P w = .ok (x.toNat, y.toNat, cap) w := by
  have ey : (y.toNat : Int) = y := Int.toNat_of_nonneg (by omega)
  rcases bnd_some hx with ⟨hl, rfl⟩ | ⟨kl, hl⟩ <;> rcases bnd_some hy with ⟨hh, rfl⟩ | ⟨kh, hh⟩
  · rw [Option.map_eq_none_iff] at hl hh
    subst hl; subst hh
    simp [Instr.sliceBounds]
  · rw [Option.map_eq_none_iff] at hl
    subst hl
    obtain ⟨p, rfl, hp⟩ := Option.map_eq_some_iff.1 hh
    have hr := h.ev p
    rw [hp] at hr
    have := rep_int hr
    simp only [Option.map_none, Option.map_some, this]
    simp [Instr.sliceBounds, run_sliceBound w kh y cap _ (by omega) (by omega)]
  · rw [Option.map_eq_none_iff] at hh
    subst hh
    obtain ⟨p, rfl, hp⟩ := Option.map_eq_some_iff.1 hl
    have hr := h.ev p
    rw [hp] at hr
    have := rep_int hr
    simp only [Option.map_none, Option.map_some, this]
    simp [Instr.sliceBounds, run_sliceBound w kl x len _ (by omega) (by omega)]
  · obtain ⟨p, rfl, hp⟩ := Option.map_eq_some_iff.1 hl
    obtain ⟨q, rfl, hq⟩ := Option.map_eq_some_iff.1 hh
    have hr := h.ev p
    rw [hp] at hr
    have e1 := rep_int hr
    have hr := h.ev q
    rw [hq] at hr
    have e2 := rep_int hr
    simp only [Option.map_some, e1, e2]
    simp [Instr.sliceBounds, run_sliceBound w kh y cap _ (by omega) (by omega), run_sliceBound w kl x y.toNat _ (by omega) (by omega)]

theorem chunks_get' {s : Nat} : ∀ (n : Nat) (cs : List V) (i j : Nat) (v : V), at2 (chunks s n cs) i j = some v → i < n ∧ j < s ∧ cs[i * s + j]? = some v
  | 0, cs, i, j, v, h => by simp [at2, chunks] at h
  | n + 1, cs, i, j, v, h => by
    cases i with
    | zero =>
      simp only [at2, chunks, List.getElem?_cons_zero, Option.bind_some, List.getElem?_take] at h
      split at h
      · rename_i hj
        exact ⟨by omega, hj, by simpa using h⟩
      · cases h
    | succ i =>
      have h' : at2 (chunks s n (cs.drop s)) i j = some v := h
      obtain ⟨h1, h2, h3⟩ := chunks_get' n (cs.drop s) i j v h'
      rw [List.getElem?_drop] at h3
      refine ⟨by omega, h2, ?_⟩
      rw [Nat.succ_mul, ← h3]
      congr 1
      omega

theorem chunks_len' {s : Nat} : ∀ (n : Nat) (cs : List V), (chunks s n cs).length = n
  | 0, _ => rfl
  | n + 1, cs => by simp [chunks, chunks_len' n]

theorem chunks_row' {s : Nat} : ∀ (n : Nat) (cs : List V), n * s ≤ cs.length → ∀ r ∈ chunks s n cs, r.length = s
  | 0, _, _, r, hr => by simp [chunks] at hr
  | n + 1, cs, hl, r, hr => by
    rw [Nat.succ_mul] at hl
    simp only [chunks, List.mem_cons] at hr
    rcases hr with rfl | hr
    · simp; omega
    · exact chunks_row' n (cs.drop s) (by simp; omega) r hr

theorem op_slice3 {o : Oper} {σ : St} {a : Act} {w : World} {e : Env} {k : V → St → Prop} (h : RSt G σ a w e) (t : TypeId) (x : Operand) (lo hi : Option Operand) (mx : Operand) (ho : o.op = .slice t x lo hi (some mx)) (hk : evOp P G o σ k) :
    OpDone P G o σ a w e k := by
  simp only [evOp, ho] at hk
  have hx := asRp_repF h.heap (h.ev x)
  generalize hux : a.eval x = ux at hx
  generalize asRp G (σ.ev x) = vx at hk hx
  unfold evSlice3 at hk
  split at hk
  · rename_i es rows fl
    split at hk
    · rename_i el s by_ p kh q km r hsl hp hq hr
      obtain ⟨⟨hes, h0, h1, rfl, h2⟩, hk⟩ := hk
      obtain ⟨i, hu, hi', rfl, rfl⟩ := slOf_some hsl
      obtain ⟨oh, rfl, hoh⟩ := Option.map_eq_some_iff.1 hq
      have er := h.ev mx
      rw [hr] at er
      have er := rep_int er
      have eh := h.ev oh
      rw [hoh] at eh
      have eh := rep_int eh
      have main : ∀ (base : Option Addr) (cap : Nat), ux = .slice base rows.length cap → rows.length ≤ cap →
          Rep w e (.dat i.size ((rows.take r.toNat).drop p.toNat) .tight) (.slice (if r.toNat = p.toNat then base else base.map (·.add (p.toNat * i.size))) (r.toNat - p.toNat) (r.toNat - p.toNat)) → OpDone P G o σ a w e k := by
        intro base cap hb hcap hrep
        subst hb
        refine opDone_pure h ?_ hk ⟨hrep, trivial⟩
        simp only [execOp, ho, hux]
        refine run_value ?_
        have hb : (Instr.sliceBounds true rows.length cap (lo.map a.eval) ((some oh).map a.eval) (some (a.eval mx))).run P w = .ok (p.toNat, r.toNat, r.toNat) w := by
          have hrn : ((r.toNat : Nat) : Int) = r := Int.toNat_of_nonneg (by omega)
          rcases bnd_some hp with ⟨hl, rfl⟩ | ⟨kl, hl⟩
          · rw [Option.map_eq_none_iff] at hl
            subst hl
            simp only [Option.map_none, Option.map_some, er, eh]
            simp [Instr.sliceBounds, run_sliceBound w km r cap _ (by omega) (by omega), run_sliceBound w kh r r.toNat _ (by omega) (by omega)]
          · obtain ⟨ol, rfl, hol⟩ := Option.map_eq_some_iff.1 hl
            have el := h.ev ol
            rw [hol] at el
            have el := rep_int el
            simp only [Option.map_some, er, eh, el]
            simp [Instr.sliceBounds, run_sliceBound w km r cap _ (by omega) (by omega), run_sliceBound w kh r r.toNat _ (by omega) (by omega), run_sliceBound w kl p r.toNat _ (by omega) (by omega)]
        show (Instr.sliceAt t _ (lo.map a.eval) ((some oh).map a.eval) (some (a.eval mx))).run P w = _
        unfold Instr.sliceAt
        simp only [Sem.run_bind, run_underlying hu, Result.andThen]
        unfold Instr.slice
        simp only [Sem.run_bind, run_underlying hu, Result.andThen, hb, run_sizeOf' hi']
        rfl
      have hql : r.toNat ≤ rows.length := by omega
      have hpq : p.toNat ≤ r.toNat := by omega
      have hlen : ((rows.take r.toNat).drop p.toNat).length = r.toNat - p.toNat := by simp; omega
      obtain ⟨hx1, _⟩ := hx
      cases hx1 with
      | nil =>
        have hq0 : r.toNat = 0 := by simpa using hql
        have hp0 : p.toNat = 0 := by omega
        refine main none 0 rfl (Nat.le_refl _) ?_
        simp only [hq0, hp0]
        exact .nil _ _
      | nul _ _ a0 =>
        have hq0 : r.toNat = 0 := by simpa using hql
        have hp0 : p.toNat = 0 := by omega
        refine main (some a0) 0 rfl (Nat.le_refl _) ?_
        simp only [hq0, hp0]
        exact .nul _ _ _
      | dat _ _ _ b off cap uu hes' hcap ht h3 h4 =>
        refine main (some ⟨b, off, none⟩) cap rfl hcap ?_
        by_cases hcp : r.toNat = p.toNat
        · have hz : (rows.take r.toNat).drop p.toNat = [] := List.eq_nil_of_length_eq_zero (by omega)
          rw [if_pos hcp, hz, hcp, Nat.sub_self]
          exact .nul _ _ _
        · rw [if_neg hcp, ← hlen]
          simp only [Option.map_some, addr_add]
          have hrow : ∀ x ∈ (rows.take r.toNat).drop p.toNat, x ∈ rows := fun x hx => List.mem_of_mem_take (List.mem_of_mem_drop hx)
          have hat : ∀ (i1 j : Nat) (v : V), at2 ((rows.take r.toNat).drop p.toNat) i1 j = some v → at2 rows (p.toNat + i1) j = some v ∧ es = i.size := by
            intro i1 j v hv
            unfold at2 at hv ⊢
            rw [List.getElem?_drop, List.getElem?_take] at hv
            split at hv
            · refine ⟨hv, ?_⟩
              rcases hes with h0 | h0
              · subst h0; simp at hv
              · exact h0
            · cases hv
          refine .dat i.size _ .tight b (off + p.toNat * i.size) _ (fun i1 j => uu (p.toNat + i1) j) (fun x hx => ?_) (Nat.le_refl _) (fun _ => rfl) (fun i1 j v hv => ?_) (fun i1 j v hv => h4 _ j v (hat i1 j v hv).1)
          · have hr' := hes' x (hrow x hx)
            rcases hes with h0 | h0
            · have := hrow x hx
              rw [h0] at this
              simp at this
            · rw [hr', h0]
          · obtain ⟨hv', he⟩ := hat i1 j v hv
            have := h3 _ j v hv'
            rw [he, Nat.add_mul] at this
            rw [show off + p.toNat * i.size + (i1 * i.size + j) = off + (p.toNat * i.size + i1 * i.size + j) by omega]
            exact this
    · exact hk.elim
  · exact hk.elim

theorem op_slice {o : Oper} {σ : St} {a : Act} {w : World} {e : Env} {k : V → St → Prop} (h : RSt G σ a w e) (t : TypeId) (x : Operand) (lo hi : Option Operand) (ho : o.op = .slice t x lo hi none) (hk : evOp P G o σ k) :
    OpDone P G o σ a w e k := by
  simp only [evOp, ho] at hk
  have hx := asRp_repF h.heap (h.ev x)
  generalize hux : a.eval x = ux at hx
  generalize asRp G (σ.ev x) = vx at hk hx
  unfold evSlice at hk
  split at hk
  · rename_i l
    split at hk
    · rename_i p q hp hq
      obtain ⟨hu, ⟨h0, h1, h2⟩, hk⟩ := hk
      have ex := rep_str hx
      subst ex
      refine opDone_pure h (u := .string ⟨⟨(l.take q.toNat).drop p.toNat⟩⟩) ?_ hk (repF_str _ _ _)
      simp only [execOp, ho, hux]
      refine run_value ?_
      have hb := run_bounds (P := P) h false l.length l.length lo hi hp hq h0 h1 h2 (Nat.le_refl _)
      show (Instr.sliceAt t (Value.string ⟨⟨l⟩⟩) (lo.map a.eval) (hi.map a.eval) none).run P w = _
      unfold Instr.sliceAt
      simp only [Sem.run_bind, run_underlying hu, Result.andThen]
      unfold Instr.slice
      simp only [Sem.run_bind, run_underlying hu, Result.andThen]
      have hsz : (ByteArray.mk ⟨l⟩).size = l.length := rfl
      simp only [Option.isSome_none, Bool.false_eq_true, if_false, hsz]
      simp only [Sem.run_pure, Result.andThen, Sem.run_bind, hb]
      congr 2
      refine ByteArray.ext ?_
      refine Array.ext' ?_
      have : ((ByteArray.mk ⟨l⟩).extract p.toNat q.toNat).data.toList = (l.take q.toNat).drop p.toNat := by
        rw [ByteArray.data_extract]
        simp [List.extract_eq_take_drop, List.drop_take]
      exact this
    · exact hk.elim
  · rename_i es rows fl
    split at hk
    · rename_i el s by_ p q hsl hp hq
      obtain ⟨⟨hes, h0, h1, h2⟩, hk⟩ := hk
      obtain ⟨i, hu, hi', rfl, rfl⟩ := slOf_some hsl
      have main : ∀ (base : Option Addr) (cap : Nat), ux = .slice base rows.length cap → rows.length ≤ cap →
          Rep w e (.dat i.size ((rows.take q.toNat).drop p.toNat) .no) (.slice (if cap = p.toNat then base else base.map (·.add (p.toNat * i.size))) (q.toNat - p.toNat) (cap - p.toNat)) → OpDone P G o σ a w e k := by
        intro base cap hb hcap hrep
        subst hb
        refine opDone_pure h ?_ hk ⟨hrep, trivial⟩
        simp only [execOp, ho, hux]
        refine run_value ?_
        have hb := run_bounds (P := P) h true rows.length cap lo hi hp hq h0 h1 h2 hcap
        show (Instr.sliceAt t _ (lo.map a.eval) (hi.map a.eval) none).run P w = _
        unfold Instr.sliceAt
        simp only [Sem.run_bind, run_underlying hu, Result.andThen]
        unfold Instr.slice
        simp only [Sem.run_bind, run_underlying hu, Result.andThen, hb, run_sizeOf' hi']
        rfl
      have hql : q.toNat ≤ rows.length := by omega
      have hpq : p.toNat ≤ q.toNat := by omega
      have hlen : ((rows.take q.toNat).drop p.toNat).length = q.toNat - p.toNat := by simp; omega
      obtain ⟨hx1, _⟩ := hx
      cases hx1 with
      | nil =>
        have hq0 : q.toNat = 0 := by simpa using hql
        have hp0 : p.toNat = 0 := by omega
        refine main none 0 rfl (Nat.le_refl _) ?_
        simp only [hq0, hp0]
        exact .nil _ _
      | nul _ _ a0 =>
        have hq0 : q.toNat = 0 := by simpa using hql
        have hp0 : p.toNat = 0 := by omega
        refine main (some a0) 0 rfl (Nat.le_refl _) ?_
        simp only [hq0, hp0]
        exact .nul _ _ _
      | dat _ _ _ b off cap uu hes' hcap ht h3 h4 =>
        refine main (some ⟨b, off, none⟩) cap rfl hcap ?_
        by_cases hcp : cap = p.toNat
        · have hz : (rows.take q.toNat).drop p.toNat = [] := List.eq_nil_of_length_eq_zero (by omega)
          rw [if_pos hcp, hz]
          have h1 : q.toNat - p.toNat = ([] : List (List V)).length := by simp; omega
          rw [h1]
          exact .dat i.size [] .no b off (cap - p.toNat) (fun _ _ => undef) (by simp) (by simp) (by simp) (fun i j v hv => by simp [at2] at hv) (fun i j v hv => by simp [at2] at hv)
        · rw [if_neg hcp, ← hlen]
          simp only [Option.map_some, addr_add]
          have hrow : ∀ r ∈ (rows.take q.toNat).drop p.toNat, r ∈ rows := fun r hr => List.mem_of_mem_take (List.mem_of_mem_drop hr)
          have hat : ∀ (i1 j : Nat) (v : V), at2 ((rows.take q.toNat).drop p.toNat) i1 j = some v → at2 rows (p.toNat + i1) j = some v ∧ es = i.size := by
            intro i1 j v hv
            unfold at2 at hv ⊢
            rw [List.getElem?_drop, List.getElem?_take] at hv
            split at hv
            · refine ⟨hv, ?_⟩
              rcases hes with h0 | h0
              · subst h0; simp at hv
              · exact h0
            · cases hv
          refine .dat i.size _ .no b (off + p.toNat * i.size) (cap - p.toNat) (fun i1 j => uu (p.toNat + i1) j) (fun r hr => ?_) (by rw [hlen]; omega) (by simp) (fun i1 j v hv => ?_) (fun i1 j v hv => h4 _ j v (hat i1 j v hv).1)
          · have hr' := hes' r (hrow r hr)
            rcases hes with h0 | h0
            · have := hrow r hr
              rw [h0] at this
              simp at this
            · rw [hr', h0]
          · obtain ⟨hv', he⟩ := hat i1 j v hv
            have := h3 _ j v hv'
            rw [he, Nat.add_mul] at this
            rw [show off + p.toNat * i.size + (i1 * i.size + j) = off + (p.toNat * i.size + i1 * i.size + j) by omega]
            exact this
    · exact hk.elim
  · rename_i id es len
    split at hk
    · rename_i el s by_ p q hsl hp hq
      obtain ⟨⟨hes, h0, h1, h2⟩, hk⟩ := hk
      obtain ⟨i, hu, hi', rfl, rfl⟩ := slOf_some hsl
      obtain ⟨hx1, _⟩ := hx
      cases hx1 with
      | arr _ _ _ cap hid hcap =>
        have hb := run_bounds (P := P) h true len cap lo hi hp hq h0 h1 h2 hcap
        have run : (execOp a.eval o).run P w = .ok (.value (.slice (if cap = p.toNat then some ⟨e.ρ id, 0, none⟩ else some ⟨e.ρ id, 0 + p.toNat * i.size, none⟩) (q.toNat - p.toNat) (cap - p.toNat))) w := by
          simp only [execOp, ho, hux]
          refine run_value ?_
          show (Instr.sliceAt t _ (lo.map a.eval) (hi.map a.eval) none).run P w = _
          unfold Instr.sliceAt
          simp only [Sem.run_bind, run_underlying hu, Result.andThen]
          unfold Instr.slice
          simp only [Sem.run_bind, run_underlying hu, Result.andThen, hb, run_sizeOf' hi']
          simp only [Option.map_some, addr_add]
          rfl
        cases lo with
        | none =>
          have hp0 : p = 0 := by simpa [bnd] using hp.symm
          subst hp0
          refine opDone_pure h run hk ⟨?_, trivial⟩
          simp only [Int.toNat_zero, Nat.zero_mul, Nat.add_zero, Nat.sub_zero, ite_self]
          exact .arr id es q.toNat cap hid (by omega)
        | some lo =>
          refine opDone_pure h run hk ⟨?_, trivial⟩
          subst hes
          by_cases hcp : cap = p.toNat
          · rw [if_pos hcp]
            exact .sub id _ _ _ _ 0 hid (by omega) (fun h => by omega)
          · rw [if_neg hcp]
            exact .sub id _ _ _ _ _ hid (by omega) (fun _ => by omega)
    · exact hk.elim
  · rename_i cs
    split at hk
    · rename_i n el s hl hh harr
      obtain ⟨hs1, hns, hk⟩ := hk
      rw [Option.map_eq_none_iff] at hl hh
      subst hl; subst hh
      obtain ⟨i, hu, hi', rfl⟩ := arrOf_some harr
      obtain ⟨hx1, _⟩ := hx
      cases hx1 with
      | rp _ b off u h1 h2 =>
        refine opDone_pure h (u := .slice (some ⟨b, off, none⟩) n n) ?_ hk ⟨?_, trivial⟩
        · simp only [execOp, ho, hux]
          refine run_value ?_
          show (Instr.sliceAt t _ none none none).run P w = _
          unfold Instr.sliceAt
          simp only [Sem.run_bind, run_underlying hu, Result.andThen]
          simp only [Instr.sureAddr, Sem.run_bind, Sem.run_pure, Result.andThen, Instr.sliceBounds, run_sizeOf' hi']
          by_cases hn : n = 0
          · subst hn; rfl
          · rw [if_neg hn]
            simp [add_zero']
        · have := Rep.dat (w := w) (e := e) i.size (chunks i.size n cs) .no b off n (fun i1 j => u (i1 * i.size + j)) (chunks_row' n cs hns) (by rw [chunks_len']; exact Nat.le_refl _) (by simp)
            (fun i1 j v hv => by obtain ⟨_, _, hc⟩ := chunks_get' n cs i1 j v hv; exact h1 _ v hc)
            (fun i1 j v hv => by obtain ⟨_, _, hc⟩ := chunks_get' n cs i1 j v hv; exact h2 _ v hc)
          rwa [chunks_len'] at this
    · exact hk.elim
  · exact hk.elim

end Go.Abs

/-! Sound9 -/
/- All operations; regions; code; functions; rounds; ranges over functions; loops. -/
namespace Go.Abs
open Go.RowKit

variable {P : Program} {G : Nat → Option (List V)}

theorem evOp_sound {ro : Option Nat} {o : Oper} {σ : St} {a : Act} {w : World} {e : Env} {k : V → St → Prop} (h : RSt G σ a w e) (hk : evOp P G o σ k) : OpWp P G ro o σ a w e k := by
  have done : (∀ c, o.op ≠ .defer c) → OpDone P G o σ a w e k → OpWp P G ro o σ a w e k := fun h1 h2 => opWp_of_done h1 h2
  cases ho : o.op with
  | move x => exact done (by rw [ho]; simp) (op_move h x (.inl ho) hk)
  | assign x => exact done (by rw [ho]; simp) (op_move h x (.inr ho) hk)
  | alloc t => exact done (by rw [ho]; simp) (op_alloc h t ho hk)
  | box t x => exact done (by rw [ho]; simp) (op_box h t x ho hk)
  | build t parts => exact done (by rw [ho]; simp) (op_build h t parts ho hk)
  | buildSlice t len parts => exact done (by rw [ho]; simp) (op_buildSlice h t len parts ho hk)
  | load t x => exact done (by rw [ho]; simp) (op_load h t x ho hk)
  | store t x y => exact done (by rw [ho]; simp) (op_store h t x y ho hk)
  | nilCheck x => exact done (by rw [ho]; simp) (op_nilCheck h x ho hk)
  | binOp op t x y t' => exact done (by rw [ho]; simp) (op_binOp h op t t' x y ho hk)
  | unOp op t x => exact done (by rw [ho]; simp) (op_unOp h op t x ho hk)
  | convert src dst x => exact done (by rw [ho]; simp) (op_convert h src dst x ho hk)
  | makeFunc fn x y => exact done (by rw [ho]; simp) (op_makeFunc h fn x y ho hk)
  | fieldAddr t x f => exact done (by rw [ho]; simp) (op_fieldAddr h t x f ho hk)
  | field t x f => exact done (by rw [ho]; simp) (op_field h t x f ho hk)
  | index t x i => exact done (by rw [ho]; simp) (op_index h t x i ho hk)
  | indexAddr t x i => exact done (by rw [ho]; simp) (op_indexAddr h t x i ho hk)
  | pick c x y => exact done (by rw [ho]; simp) (op_pick h c x y ho hk)
  | extract x i => exact done (by rw [ho]; simp) (op_extract h x i ho hk)
  | call c =>
    obtain ⟨callee, args, ts⟩ := c
    cases callee with
    | builtin b => exact done (by rw [ho]; simp) (op_builtin h b args ts ho hk)
    | value f => exact op_call h f args ts ho hk
    | invoke r m => simp only [evOp, ho] at hk
  | makeMap t r =>
    cases r with
    | none => exact done (by rw [ho]; simp) (op_makeMap h t ho hk)
    | some r => simp only [evOp, ho] at hk
  | mapUpdate t m x y => exact done (by rw [ho]; simp) (op_insert h t m x y (.inl ho) hk)
  | insert t m x y => exact done (by rw [ho]; simp) (op_insert h t m x y (.inr ho) hk)
  | lookup t x i ok => exact done (by rw [ho]; simp) (op_lookup h t x i ok ho hk)
  | range t x => exact done (by rw [ho]; simp) (op_range h t x ho hk)
  | next x s =>
    cases s with
    | false => exact done (by rw [ho]; simp) (op_next h x ho hk)
    | true => simp only [evOp, ho] at hk
  | entry x => exact done (by rw [ho]; simp) (op_entry h x ho hk)
  | makeSlice t x y => exact done (by rw [ho]; simp) (op_make h t x y ho hk)
  | slice t x lo hi mx =>
    cases mx with
    | none => exact done (by rw [ho]; simp) (op_slice h t x lo hi ho hk)
    | some r => exact done (by rw [ho]; simp) (op_slice3 h t x lo hi r ho hk)
  | _ => simp only [evOp, ho] at hk

theorem RSt.put {σ : St} {a : Act} {w : World} {e : Env} (h : RSt G σ a w e) (d : Option Tmp) {v : V} {u : Value} (hv : RepF w e v u) : RSt G (σ.put d v) (a.put d u) w e := by
  cases d with
  | none => exact h
  | some d =>
    refine ⟨h.heap, ⟨by simpa [St.put, Act.put] using h.tmps.1, fun i v' u' hv' hu' => ?_⟩, h.defs, h.defsN, h.cur⟩
    simp only [St.put, Act.put] at hv' hu'
    rw [List.getElem?_set] at hv'
    rw [Array.getElem?_toList, Array.getElem?_setIfInBounds] at hu'
    split at hv'
    · rename_i hdi
      rw [if_pos hdi] at hu'
      split at hv'
      · split at hu'
        · cases hv'; cases hu'; exact hv
        · cases hu'
      · cases hv'
    · rename_i hdi
      rw [if_neg hdi] at hu'
      exact h.tmps.2 i v' u' hv' (by rw [Array.getElem?_toList]; exact hu')

@[simp] theorem put_cur (σ : St) (d : Option Tmp) (v : V) : (σ.put d v).cur = σ.cur := by cases d <;> rfl
@[simp] theorem put_H (σ : St) (d : Option Tmp) (v : V) : (σ.put d v).H = σ.H := by cases d <;> rfl

theorem wanted_none {o : Oper} (h : o.guard = none) (y : Nat → Option Bool) : Region.wanted o y = true := by simp [Region.wanted, h]

theorem evOps_sound {ro : Option Nat} (all : List Oper) (k : St → Prop) (Q : Exit → Act → World → Prop) :
    ∀ (rest : List Oper) (i : Nat) (σ : St) (a : Act) (w : World) (e : Env), all.drop i = rest → RSt G σ a w e → evOps P G all rest σ k →
    (∀ σ' a' w' e', k σ' → σ'.cur = σ.cur → RSt G σ' a' w' e' → Ext σ.H w e σ'.H w' e' → Q .normal a' w') →
    wpOpsIn (FW ro) 0 P all.toArray Q (List.range' i rest.length) a w := by
  intro rest
  induction rest with
  | nil =>
    intro i σ a w e _ h hk hQ
    exact hQ σ a w e hk rfl h (.refl _ _ _)
  | cons o rest ih =>
    intro i σ a w e hd h hk hQ
    have ho : all[i]? = some o := by
      have : (all.drop i)[0]? = some o := by rw [hd]; rfl
      rwa [List.getElem?_drop] at this
    have hd' : all.drop (i + 1) = rest := by
      rw [← List.drop_drop, hd]
      rfl
    rw [List.length_cons, List.range'_succ]
    simp only [wpOpsIn, List.getElem?_toArray, ho]
    -- the operation is carried out
    have run : evOp P G o σ (fun v σ' => evOps P G all rest (σ'.put o.dst v) k) → o.wpIn (FW ro) 0 P a w (wpOpsIn (FW ro) 0 P all.toArray Q (List.range' (i + 1) rest.length)) Q := by
      intro hk
      refine evOp_sound h hk _ _ fun u w' v σ' e' hk hc hst hv hx => ?_
      refine ih (i + 1) (σ'.put o.dst v) _ _ e' hd' (hst.put o.dst hv) hk fun σ2 a2 w2 e2 hk2 hc2 hst2 hx2 => ?_
      refine hQ σ2 a2 w2 e2 hk2 (hc2.trans ((put_cur _ _ _).trans hc)) hst2 (hx.trans ?_)
      rwa [put_H] at hx2
    -- it is passed over
    have skip : evOps P G all rest (σ.put o.dst (.tup [])) k → (∀ f, o.about P w a.eval = some f → (FW ro).fn f) ∧ wpOpsIn (FW ro) 0 P all.toArray Q (List.range' (i + 1) rest.length) (a.put o.dst undef) w := by
      intro hk
      refine ⟨fun _ _ => trivial, ?_⟩
      refine ih (i + 1) (σ.put o.dst (.tup [])) _ _ e hd' (h.put o.dst ⟨.tup [] #[] rfl (fun i v u h => by simp at h), trivial⟩) hk fun σ2 a2 w2 e2 hk2 hc2 hst2 hx2 => ?_
      refine hQ σ2 a2 w2 e2 hk2 (hc2.trans (put_cur _ _ _)) hst2 ?_
      rwa [put_H] at hx2
    simp only [evOps] at hk
    cases hg : o.guard with
    | none =>
      rw [hg] at hk
      rw [if_pos (wanted_none hg _)]
      exact run hk
    | some g =>
      obtain ⟨j, want⟩ := g
      rw [hg] at hk
      simp only at hk
      have hw : Region.wanted o (yielded all.toArray a.tmps) = (yielded all.toArray a.tmps j == some want) := by simp [Region.wanted, hg]
      rw [hw]
      -- what the guard's temporary holds
      have hy : ∀ v, yieldedV all σ j = some v → ∃ u, ((all.toArray[j]?).bind (·.dst)).bind (a.tmps[·]?) = some u ∧ Rep w e v u := by
        intro v hv
        unfold yieldedV at hv
        simp only [List.getElem?_toArray]
        split at hv
        · rename_i d hdst
          rw [hdst]
          have hlt : d < σ.tmps.length := (List.getElem?_eq_some_iff.1 hv).1
          have hlt' : d < a.tmps.size := Nat.lt_of_lt_of_eq hlt (h.tmps.1.trans Array.length_toList)
          exact ⟨a.tmps[d], by simp [hlt'], (h.tmps.2 d v _ hv (by simp [hlt'])).1⟩
        · cases hv
      split at hk
      · rename_i b hv
        obtain ⟨u, hu, hr⟩ := hy _ hv
        have hub : u = .bool b := by cases hr; rfl
        have hyy : yielded all.toArray a.tmps j = some b := by unfold yielded; rw [hu, hub]
        rw [hyy]
        by_cases hb : b = want
        · rw [if_pos (by simp [hb])]
          exact run (hk.1 hb)
        · rw [if_neg (by simp [hb])]
          exact skip (hk.2 hb)
      · rename_i hv
        obtain ⟨u, hu, hr⟩ := hy _ hv
        have hyy : yielded all.toArray a.tmps j = none := by
          unfold yielded
          rw [hu]
          cases hr
          rfl
        rw [hyy, if_neg (by simp)]
        exact skip hk
      · exact hk.elim

theorem evCode_sound (c : Code) : ∀ (Φ : Exit → St → Prop) (σ : St), evCode P G c Φ σ → WPc P G c Φ σ := by
  induction c with
  | skip => intro Φ σ hk a w e h; exact wpIn_skip ⟨σ, e, hk, rfl, h, .refl _ _ _⟩
  | label l => intro Φ σ hk a w e h; exact wpIn_label ⟨σ, e, hk, rfl, h, .refl _ _ _⟩
  | exit id => intro Φ σ hk a w e h; exact wpIn_exit ⟨σ, e, hk, rfl, h, .refl _ _ _⟩
  | goto l => intro Φ σ hk a w e h; exact wpIn_goto ⟨σ, e, hk, rfl, h, .refl _ _ _⟩
  | ret => intro Φ σ hk a w e h; exact wpIn_ret ⟨σ, e, hk, rfl, h, .refl _ _ _⟩
  | refuse w => intro Φ σ hk; exact hk.elim
  | loop c ih => intro Φ σ hk; exact hk
  | scope c ih => intro Φ σ hk; exact hk
  | rangeFunc f ps a c iha ihc => intro Φ σ hk; exact hk
  | region id ops d =>
    intro Φ σ hk
    cases d with
    | true => exact hk
    | false =>
      intro a w e h
      refine wpIn_region ?_
      have := evOps_sound (ro := σ.cur.map e.ρ) ops.toList (Φ .normal) (fun x a' w' => ∃ σ' e', Φ x σ' ∧ σ'.cur = σ.cur ∧ RSt G σ' a' w' e' ∧ Ext σ.H w e σ'.H w' e') ops.toList 0 σ a w e rfl h hk
        fun σ' a' w' e' hk' hc' hst' hx' => ⟨σ', e', hk', hc', hst', hx'⟩
      rw [List.range_eq_range']
      simpa using this
  | seq x y ihx ihy =>
    intro Φ σ hk a w e h
    refine wpIn_seq ?_
    refine wpIn_mono (ihx _ σ hk a w e h) ?_
    rintro ex a' w' ⟨σ', e', hΦ, hc, hst, hx⟩
    have hro : σ'.cur.map e'.ρ = σ.cur.map e.ρ := by
      rw [hc]
      cases hcur : σ.cur with
      | none => rfl
      | some id => simp only [Option.map_some, Option.some.injEq]; exact hx.ρ id (by rw [← h.heap.len]; exact h.cur id hcur)
    cases ex with
    | normal =>
      have := ihy _ σ' hΦ a' w' e' hst
      rw [hro] at this
      refine wpIn_mono this ?_
      rintro ex2 a2 w2 ⟨σ2, e2, hΦ2, hc2, hst2, hx2⟩
      exact ⟨σ2, e2, hΦ2, hc2.trans hc, hst2, hx.trans hx2⟩
    | _ => exact ⟨σ', e', hΦ, hc, hst, hx⟩
  | cond c x y ihx ihy =>
    intro Φ σ hk a w e h
    simp only [evCode] at hk
    have hc := h.ev c
    generalize σ.ev c = vc at hk hc
    split at hk
    · rename_i t
      have ht : a.eval c = .bool t := rep_im hc
      refine wpIn_cond ht ?_
      cases t with
      | true => exact ihx Φ σ (hk.1 rfl) a w e h
      | false => exact ihy Φ σ (hk.2 rfl) a w e h
    · exact hk.elim
  | block id c ih =>
    intro Φ σ hk a w e h
    refine wpIn_block ?_
    refine wpIn_mono (ih _ σ hk a w e h) ?_
    rintro ex a' w' ⟨σ', e', hΦ, hc, hst, hx⟩
    cases ex with
    | exit i =>
      simp only at hΦ
      by_cases hi : i = id
      · rw [if_pos hi] at hΦ
        have : (Exit.inBlock id (fun x a' w' => ∃ σ' e', Φ x σ' ∧ σ'.cur = σ.cur ∧ RSt G σ' a' w' e' ∧ Ext σ.H w e σ'.H w' e') (.exit i) a' w') = (∃ σ' e', Φ .normal σ' ∧ σ'.cur = σ.cur ∧ RSt G σ' a' w' e' ∧ Ext σ.H w e σ'.H w' e') := by
          simp [Exit.inBlock, hi]
        rw [this]
        exact ⟨σ', e', hΦ, hc, hst, hx⟩
      · rw [if_neg hi] at hΦ
        have : (Exit.inBlock id (fun x a' w' => ∃ σ' e', Φ x σ' ∧ σ'.cur = σ.cur ∧ RSt G σ' a' w' e' ∧ Ext σ.H w e σ'.H w' e') (.exit i) a' w') = (∃ σ' e', Φ (.exit i) σ' ∧ σ'.cur = σ.cur ∧ RSt G σ' a' w' e' ∧ Ext σ.H w e σ'.H w' e') := by
          simp [Exit.inBlock, hi]
        rw [this]
        exact ⟨σ', e', hΦ, hc, hst, hx⟩
    | _ => exact ⟨σ', e', hΦ, hc, hst, hx⟩

/-! ### loops -/
/-- A state that says less. -/
def Weak (G : Nat → Option (List V)) (σ σ' : St) : Prop :=
  σ'.cur = σ.cur ∧ ∀ a w e, RSt G σ a w e → ∃ e', RSt G σ' a w e' ∧ ∀ H0 w0 e0, H0.length ≤ σ'.H.length → Ext H0 w0 e0 σ.H w e → Ext H0 w0 e0 σ'.H w e'

theorem Weak.refl (σ : St) : Weak G σ σ := ⟨rfl, fun _ _ e h => ⟨e, h, fun _ _ _ _ h => h⟩⟩

theorem wpIn_loop_rel {F : Fence} {n : Nat} {c : Code} {Q : Exit → Act → World → Prop} (I : Nat → Act → World → Prop)
    (round : ∀ m a w, I m a w → c.wpIn F n P (Exit.then (fun a' w' => ∃ m', m' < m ∧ I m' a' w') Q) a w) {m : Nat} {a : Act} {w : World} (h₀ : I m a w) : (Code.loop c).wpIn F n P Q a w := by
  intro b k cs hro hb hr
  have key : ∀ j a w, I j a w →
      ∃ e a' w', Q e a' w' ∧ ArrivesIn (Machine.fenced P F) P (lone (b.atR a (.code c :: .inLoop c :: k)) cs w) b k cs e a' w' := by
    intro j
    induction j using Nat.strongRecOn with
    | _ j ih =>
      intro a w hI
      obtain ⟨e, a₁, w₁, hq, harr⟩ := round j a w hI b (.inLoop c :: k) cs hro hb hr
      cases e with
      | normal =>
        obtain ⟨m', hlt, hI₁⟩ := hq
        obtain ⟨e₂, a₂, w₂, hq₂, harr₂⟩ := ih m' hlt a₁ w₁ hI₁
        exact ⟨e₂, a₂, w₂, hq₂, .of_steps (StepsIn.trans harr (.one (fenced_calm hb hr rfl) stepR_inLoop)) harr₂⟩
      | exit id => exact ⟨_, a₁, w₁, hq, .pass (x := .inLoop c) rfl (fun _ _ => .inl (by simp)) harr⟩
      | goto l => exact ⟨_, a₁, w₁, hq, .pass (x := .inLoop c) rfl (fun _ _ => .inl (by simp)) harr⟩
      | ret => exact ⟨_, a₁, w₁, hq, .pass (x := .inLoop c) rfl (fun _ _ => .inl (by simp)) harr⟩
      | panic ch => exact ⟨_, a₁, w₁, hq, .pass (x := .inLoop c) rfl (fun _ _ => .inl (by simp)) harr⟩
      | outgrown => exact ⟨_, a₁, w₁, hq, .pass (x := .inLoop c) rfl (fun _ _ => .inl (by simp)) harr⟩
  obtain ⟨e, a', w', hq, harr⟩ := key _ a w h₀
  exact ⟨e, a', w', hq, .of_steps (.one (fenced_calm hb hr rfl) stepR_loop) harr⟩

theorem cur_same {σ σ' : St} {w w' : World} {a : Act} {e e' : Env} (h : RSt G σ a w e) (hc : σ'.cur = σ.cur) (hx : Ext σ.H w e σ'.H w' e') : σ'.cur.map e'.ρ = σ.cur.map e.ρ := by
  rw [hc]
  cases hcur : σ.cur with
  | none => rfl
  | some id => simp only [Option.map_some, Option.some.injEq]; exact hx.ρ id (by rw [← h.heap.len]; exact h.cur id hcur)

/-! ### weakening -/
/-- Data that say less of their spare places, rows within rows too. -/
inductive DW : V → V → Prop
  | refl (v : V) : DW v v
  | nil (es es' : Nat) (fl : Fl) : DW (.dat es [] fl) (.dat es' [] .no)
  | rows (es : Nat) (rows rows' : List (List V)) (fl : Fl) (hl : rows.length = rows'.length) (hr : ∀ (i : Nat) (r r' : List V), rows[i]? = some r → rows'[i]? = some r' → r.length = r'.length)
      (h : ∀ (i j : Nat) (v v' : V), at2 rows i j = some v → at2 rows' i j = some v' → DW v v') : DW (.dat es rows fl) (.dat es rows' .no)

theorem at2_other {rows rows' : List (List V)} (hl : rows.length = rows'.length) (hr : ∀ (i : Nat) (r r' : List V), rows[i]? = some r → rows'[i]? = some r' → r.length = r'.length) {i j : Nat} {v' : V}
    (h : at2 rows' i j = some v') : ∃ v, at2 rows i j = some v := by
  unfold at2 at h ⊢
  obtain ⟨r', hr', hj⟩ := Option.bind_eq_some_iff.1 h
  have hi : i < rows.length := by have := (List.getElem?_eq_some_iff.1 hr').1; omega
  have hrl := hr i rows[i] r' (List.getElem?_eq_getElem hi) hr'
  have hj' : j < rows[i].length := by have := (List.getElem?_eq_some_iff.1 hj).1; omega
  exact ⟨rows[i][j], by rw [List.getElem?_eq_getElem hi]; exact List.getElem?_eq_getElem hj'⟩

theorem rows_length {rows rows' : List (List V)} {es : Nat} (hl : rows.length = rows'.length) (hr : ∀ (i : Nat) (r r' : List V), rows[i]? = some r → rows'[i]? = some r' → r.length = r'.length)
    (h : ∀ r ∈ rows, r.length = es) : ∀ r ∈ rows', r.length = es := by
  intro r hm
  obtain ⟨i, hi, rfl⟩ := List.getElem_of_mem hm
  have hi' : i < rows.length := by omega
  rw [← hr i rows[i] rows'[i] (List.getElem?_eq_getElem hi') (List.getElem?_eq_getElem hi)]
  exact h _ (List.getElem_mem hi')

theorem DW.rep {v v' : V} (h : DW v v') : ∀ {w : World} {e : Env} {u : Value}, Rep w e v u → Rep w e v' u := by
  induction h with
  | refl v => intro w e u h; exact h
  | nil es es' fl =>
    intro w e u h
    cases h with
    | nil => exact .nil _ _
    | nul => exact .nul _ _ _
    | dat _ _ _ b o cap uu hes hcap ht h1 h2 =>
      exact .dat es' [] .no b o cap uu (by simp) hcap (by simp) (fun i j v h => by simp [at2] at h) (fun i j v h => by simp [at2] at h)
  | rows es rows rows' fl hl hr hh ih =>
    intro w e u h
    cases h with
    | nil =>
      obtain rfl : rows' = [] := List.eq_nil_of_length_eq_zero hl.symm
      exact .nil _ _
    | nul =>
      obtain rfl : rows' = [] := List.eq_nil_of_length_eq_zero hl.symm
      exact .nul _ _ _
    | dat _ _ _ b o cap uu hes hcap ht h1 h2 =>
      rw [hl]
      rw [hl] at hcap
      refine .dat es rows' .no b o cap uu (rows_length hl hr hes) hcap (by simp) (fun i j v' hv' => ?_) (fun i j v' hv' => ?_)
      · obtain ⟨v, hv⟩ := at2_other hl hr hv'
        exact h1 i j v hv
      · obtain ⟨v, hv⟩ := at2_other hl hr hv'
        exact ih i j v v' hv hv' (h2 i j v hv)

/-- A value that says less, where blocks from number n on are forgotten. -/
inductive VW (n : Nat) : V → V → Prop
  | bad (v : V) : VW n v .bad
  | im (v : Value) : VW n (.im v) (.im v)
  | str (l : List UInt8) : VW n (.str l) (.str l)
  | ptr (id off : Nat) (h : id < n) : VW n (.ptr id off) (.ptr id off)
  | mp (id : Nat) (h : id < n) : VW n (.mp id) (.mp id)
  | yld (id : Nat) (h : id < n) : VW n (.yld id) (.yld id)
  | arr (id es len : Nat) (h : id < n) : VW n (.arr id es len) (.arr id es len)
  | sub (id es off len : Nat) (h : id < n) : VW n (.sub id es off len) (.sub id es off len)
  | nil (es es' : Nat) (fl fl' : Fl) : (fl = .tight ∨ fl' = .no ∨ (fl = fl' ∧ es = es')) → VW n (.dat es [] fl) (.dat es' [] fl')
  | dat (es : Nat) (rows : List (List V)) (fl : Fl) : VW n (.dat es rows fl) (.dat es rows fl)
  | no (es : Nat) (rows : List (List V)) (fl : Fl) : VW n (.dat es rows fl) (.dat es rows .no)
  | cls (es : Nat) (rows : List (List V)) (c : Nat) : VW n (.dat es rows .tight) (.dat es rows (.cls c))
  | rows (es : Nat) (rows rows' : List (List V)) (fl : Fl) (hl : rows.length = rows'.length) (hr : ∀ (i : Nat) (r r' : List V), rows[i]? = some r → rows'[i]? = some r' → r.length = r'.length)
      (h : ∀ (i j : Nat) (v v' : V), at2 rows i j = some v → at2 rows' i j = some v' → DW v v') : VW n (.dat es rows fl) (.dat es rows' .no)
  | rp (cs : List V) : VW n (.rp cs) (.rp cs)
  | fn (f : Fn) (a b : List V) (ha : ∀ (i : Nat) (v : V), a[i]? = some v → VW n v v) (hb : ∀ (i : Nat) (v : V), b[i]? = some v → VW n v v) : VW n (.fn f a b) (.fn f a b)
  | agg (cs cs' : List V) (hl : cs.length = cs'.length) (h : ∀ (i : Nat) (v v' : V), cs[i]? = some v → cs'[i]? = some v' → VW n v v') : VW n (.agg cs) (.agg cs')
  | tup (cs cs' : List V) (hl : cs.length = cs'.length) (h : ∀ (i : Nat) (v v' : V), cs[i]? = some v → cs'[i]? = some v' → VW n v v') : VW n (.tup cs) (.tup cs')

end Go.Abs

/-! Sound10 -/
/- Weakening; functions; rounds; ranges over functions; calls that know nothing of the caller's blocks. -/
namespace Go.Abs
open Go.RowKit

variable {P : Program} {G : Nat → Option (List V)}

/-! ### weakening -/
def Env.cutTo (e : Env) (n : Nat) : Env := { e with N := n }

theorem VW.rep {w : World} {e : Env} {n : Nat} (_hn : n ≤ e.N) {v v' : V} (h : VW n v v') : ∀ {u : Value}, Rep w e v u → Rep w (e.cutTo n) v' u := by
  induction h with
  | bad v => intro u _; exact .bad _
  | im v => intro u h; cases h; exact .im _
  | str l => intro u h; cases h; exact .str _
  | ptr id off hid => intro u h; cases h; exact Rep.ptr (e := e.cutTo n) id off hid
  | mp id hid => intro u h; cases h; exact Rep.mp (e := e.cutTo n) id hid
  | yld id hid => intro u h; cases h; exact Rep.yld (e := e.cutTo n) id hid
  | arr id es len hid => intro u h; cases h with
    | arr _ _ _ cap _ hc => exact Rep.arr (e := e.cutTo n) id es len cap hid hc
  | sub id es off len hid => intro u h; cases h with
    | sub _ _ _ _ cap o _ hc ho => exact Rep.sub (e := e.cutTo n) id es off len cap o hid hc ho
  | nil es es' fl fl' hfl =>
    intro u h
    cases h with
    | nil => exact .nil _ _
    | nul => exact .nul _ _ _
    | dat _ _ _ b o cap uu hes hcap ht h1 h2 =>
      refine .dat es' [] fl' b o cap uu (by simp) hcap ?_ (fun i j v h => by simp [at2] at h) (fun i j v h => by simp [at2] at h)
      intro hf
      rcases hfl with h | h | h
      · exact ht h
      · rw [h] at hf; cases hf
      · exact ht (h.1.trans hf)
  | dat es rows fl =>
    intro u h
    cases h with
    | nil => exact .nil _ _
    | nul => exact .nul _ _ _
    | dat _ _ _ b o cap uu hes hcap ht h1 h2 => exact .dat es rows fl b o cap uu hes hcap ht h1 h2
  | no es rows fl =>
    intro u h
    cases h with
    | nil => exact .nil _ _
    | nul => exact .nul _ _ _
    | dat _ _ _ b o cap uu hes hcap ht h1 h2 => exact .dat es rows .no b o cap uu hes hcap (by simp) h1 h2
  | cls es rows c =>
    intro u h
    cases h with
    | nil => exact .nil _ _
    | nul => exact .nul _ _ _
    | dat _ _ _ b o cap uu hes hcap ht h1 h2 => exact .dat es rows (.cls c) b o cap uu hes hcap (by simp) h1 h2
  | rows es rows rows' fl hl hr hh =>
    intro u h
    have h' := (DW.rows es rows rows' fl hl hr hh).rep h
    cases h' with
    | nil => exact .nil _ _
    | nul => exact .nul _ _ _
    | dat _ _ _ b o cap uu hes hcap ht h1 h2 => exact .dat es rows' .no b o cap uu hes hcap (by simp) h1 h2
  | rp cs =>
    intro u h
    cases h with
    | rp _ b o uu h1 h2 => exact .rp cs b o uu h1 h2
  | fn f a b ha hb iha ihb =>
    intro u h
    cases h with
    | fn _ _ _ f' c' hl1 hl2 h1 h2 => exact .fn f a b f' c' hl1 hl2 (fun i v u hv hu => iha i v hv (h1 i v u hv hu)) (fun i v u hv hu => ihb i v hv (h2 i v u hv hu))
  | agg cs cs' hl hh ih =>
    intro u h
    cases h with
    | agg _ us hl' h1 =>
      refine .agg cs' us (by omega) fun i v u hv hu => ?_
      have hi : i < cs.length := by have := (List.getElem?_eq_some_iff.1 hv).1; omega
      exact ih i cs[i] v (List.getElem?_eq_getElem hi) hv (h1 i cs[i] u (List.getElem?_eq_getElem hi) hu)
  | tup cs cs' hl hh ih =>
    intro u h
    cases h with
    | tup _ us hl' h1 =>
      refine .tup cs' us (by omega) fun i v u hv hu => ?_
      have hi : i < cs.length := by have := (List.getElem?_eq_some_iff.1 hv).1; omega
      exact ih i cs[i] v (List.getElem?_eq_getElem hi) hv (h1 i cs[i] u (List.getElem?_eq_getElem hi) hu)

theorem VW.flag {e : Env} {n : Nat} {v v' : V} (h : VW n v v') {w : World} {u : Value} (hr : Rep w e v u) (hf : FlagOk e v u) : FlagOk (e.cutTo n) v' u := by
  cases h with
  | cls es rows c =>
    cases hr with
    | nil => trivial
    | nul => exact ⟨fun _ => .inl rfl, fun k _ h4 => by rw [Nat.zero_mul] at h4; omega⟩
    | dat _ _ _ b o cap uu hes hcap ht h1 h2 =>
      have := ht rfl
      refine ⟨fun h0 => .inl (by rw [this, h0]; rfl), fun k h3 h4 => ?_⟩
      rw [this] at h4
      omega
  | nil es es' fl fl' hfl =>
    cases fl' with
    | no => cases hr <;> trivial
    | tight => cases hr <;> trivial
    | cls c =>
      cases hr with
      | nil => trivial
      | nul => exact ⟨fun _ => .inl rfl, fun k _ h4 => by rw [Nat.zero_mul] at h4; omega⟩
      | dat _ _ _ b o cap uu hes hcap ht h1 h2 =>
        rcases hfl with h | h | ⟨h, h'⟩
        · have hc : cap = 0 := ht h
          exact ⟨fun _ => .inl hc, fun k h3 h4 => by rw [hc] at h4; omega⟩
        · cases h
        · subst h'
          rw [h] at hf
          exact hf
  | dat es rows fl => exact hf
  | no es rows fl => cases hr <;> trivial
  | rows es rows rows' fl hl hr' hh => cases u <;> trivial
  | _ => trivial

theorem VW.repF {w : World} {e : Env} {n : Nat} (hn : n ≤ e.N) {v v' : V} (h : VW n v v') {u : Value} (hr : RepF w e v u) : RepF w (e.cutTo n) v' u :=
  ⟨h.rep hn hr.1, h.flag hr.1 hr.2⟩

/-- Lists of values, place by place. -/
inductive VWs (n : Nat) : List V → List V → Prop
  | nil : VWs n [] []
  | cons {x y : V} {xs ys : List V} (h : VW n x y) (hs : VWs n xs ys) : VWs n (x :: xs) (y :: ys)

theorem VWs.get {n : Nat} {xs ys : List V} (h : VWs n xs ys) : xs.length = ys.length ∧ ∀ (i : Nat) (x y : V), xs[i]? = some x → ys[i]? = some y → VW n x y := by
  induction h with
  | nil => exact ⟨rfl, fun i x y h => by simp at h⟩
  | cons h hs ih =>
    refine ⟨by simp [ih.1], fun i x y hx hy => ?_⟩
    cases i with
    | zero => simp at hx hy; subst hx; subst hy; exact h
    | succ i => exact ih.2 i x y (by simpa using hx) (by simpa using hy)

/-- A block that says less, or that is forgotten. -/
inductive BW (n : Nat) : Option Blk → Option Blk → Prop
  | drop (b : Option Blk) : BW n b none
  | cells (t : TypeId) (vs vs' : List V) (h : VWs n vs vs') : BW n (some (.cells t vs)) (some (.cells t vs'))
  | map (es es' : List (V × V)) (c : Nat) (h1 : VWs n (es.map (·.1)) (es'.map (·.1))) (h2 : VWs n (es.map (·.2)) (es'.map (·.2))) : BW n (some (.map es c)) (some (.map es' c))
  | defd : BW n (some .defd) (some .defd)
  | iter (m since stepped : Nat) (seen : List Nat) (hd : m < n) : BW n (some (.iter m since stepped seen)) (some (.iter m since stepped seen))
  | loop (st : LoopState) (pend : Option Code) (tmps tmps' : List V) (ps : Array Tmp) (a b : Code) (d : Nat) (h : VWs n tmps tmps') (hd : d < n) :
      BW n (some (.loop st pend tmps ps a b d)) (some (.loop st pend tmps' ps a b d))

inductive BWs (n : Nat) : Heap → Heap → Prop
  | nil (H : Heap) : BWs n H []
  | cons {x y : Option Blk} {xs ys : Heap} (h : BW n x y) (hs : BWs n xs ys) : BWs n (x :: xs) (y :: ys)

theorem BWs.get {n : Nat} {H H' : Heap} (h : BWs n H H') : H'.length ≤ H.length ∧ ∀ (i : Nat) (y : Option Blk), H'[i]? = some y → ∃ x, H[i]? = some x ∧ BW n x y := by
  induction h with
  | nil H => exact ⟨by simp, fun i y h => by simp at h⟩
  | cons h hs ih =>
    refine ⟨by simp [ih.1], fun i y hy => ?_⟩
    cases i with
    | zero => simp at hy; subst hy; exact ⟨_, rfl, h⟩
    | succ i => obtain ⟨x, hx, hb⟩ := ih.2 i y (by simpa using hy); exact ⟨x, by simpa using hx, hb⟩

theorem map_get {es : List (V × V)} {i : Nat} {x : V × V} (h : es[i]? = some x) : (es.map (·.1))[i]? = some x.1 ∧ (es.map (·.2))[i]? = some x.2 := by
  simp [h]

theorem BW.repBlk {w : World} {e : Env} {n r : Nat} (hn : n ≤ e.N) {b b' : Blk} (h : BW n (some b) (some b')) (hr : RepBlk w e r b) : RepBlk w (e.cutTo n) r b' := by
  cases h with
  | cells t vs vs' hv =>
    cases hr with
    | cells _ _ cs hb hl hh =>
      obtain ⟨h1, h2⟩ := hv.get
      refine .cells t vs' cs hb (by omega) fun i v u hv' hu => ?_
      have hi : i < vs.length := by have := (List.getElem?_eq_some_iff.1 hv').1; omega
      exact (h2 i vs[i] v (List.getElem?_eq_getElem hi) hv').repF hn (hh i vs[i] u (List.getElem?_eq_getElem hi) hu)
  | map es es' c h1 h2 =>
    cases hr with
    | map _ ms _ hb hl hk hh =>
      obtain ⟨g1, g2⟩ := h1.get
      obtain ⟨_, g4⟩ := h2.get
      simp only [List.length_map] at g1
      refine .map es' ms c hb (by omega) hk fun i x m hx hm => ?_
      have hi : i < es.length := by have := (List.getElem?_eq_some_iff.1 hx).1; omega
      obtain ⟨a1, a2⟩ := map_get hx
      obtain ⟨b1, b2⟩ := map_get (List.getElem?_eq_getElem hi)
      have := hh i es[i] m (List.getElem?_eq_getElem hi) hm
      exact ⟨(g2 i _ _ b1 a1).rep hn this.1, (g4 i _ _ b2 a2).rep hn this.2⟩
  | defd =>
    cases hr with
    | defd hb => exact .defd hb
  | iter k since stepped seen hd =>
    cases hr with
    | iter _ _ _ _ hb hd' => exact .iter k since stepped seen hb hd
  | loop st pend tmps tmps' ps a b d hv hd =>
    cases hr with
    | loop _ _ fn _ _ _ _ _ us hb hd' hl hh =>
      obtain ⟨h1, h2⟩ := hv.get
      refine .loop st pend fn tmps' ps a b d us hb hd (by omega) fun i v u hv' hu => ?_
      have hi : i < tmps.length := by have := (List.getElem?_eq_some_iff.1 hv').1; omega
      exact (h2 i tmps[i] v (List.getElem?_eq_getElem hi) hv').rep hn (hh i tmps[i] u (List.getElem?_eq_getElem hi) hu)

theorem RHeap.cutTo {H H' : Heap} {w : World} {e : Env} (hR : RHeap G H w e) (hb : BWs H'.length H H') : RHeap G H' w (e.cutTo H'.length) ∧ ∀ id, live H' id → live H id := by
  obtain ⟨hle, hget⟩ := hb.get
  have hlive : ∀ id, live H' id → live H id := by
    rintro id ⟨b', hb'⟩
    obtain ⟨x, hx, hbw⟩ := hget id _ hb'
    cases x with
    | none => cases hbw
    | some b => exact ⟨b, hx⟩
  have hn : H'.length ≤ e.N := by rw [hR.len]; exact hle
  refine ⟨⟨rfl, fun id b hb' => ?_, fun i j hi hj => hR.inj i j (hlive i hi) (hlive j hj), hR.ro, fun id o hl => hR.roOwn id o (hlive id hl), fun c b o h => ?_, hR.spd, fun g cs h => ?_⟩, hlive⟩
  · obtain ⟨x, hx, hbw⟩ := hget id _ hb'
    cases x with
    | none => cases hbw
    | some b0 => exact hbw.repBlk hn (hR.blk id b0 hx)
  · obtain ⟨h1, h2, h3, h4⟩ := hR.sp c b o h
    exact ⟨h1, h2, h3, fun id hl => h4 id (hlive id hl)⟩
  · exact (VW.rp cs).rep hn (hR.glob g cs h)

/-- A state that says less, shown place by place. -/
theorem Weak.mk' {σ : St} (vs' : List V) (H' : Heap) (ht : VWs H'.length σ.tmps vs') (hb : BWs H'.length σ.H H') (hd : ∀ id ∈ σ.defs, id < H'.length) (hc : ∀ id, σ.cur = some id → id < H'.length) :
    Weak G σ { σ with tmps := vs', H := H' } := by
  refine ⟨rfl, fun a w e h => ⟨e.cutTo H'.length, ?_, fun H0 w0 e0 hl hx => ?_⟩⟩
  · obtain ⟨hR, _⟩ := h.heap.cutTo hb
    have hn : H'.length ≤ e.N := by rw [h.heap.len]; exact hb.get.1
    obtain ⟨h1, h2⟩ := ht.get
    refine ⟨hR, ⟨by rw [← h1]; exact h.tmps.1, fun i v u hv hu => ?_⟩, h.defs, hd, hc⟩
    have hi : i < σ.tmps.length := by
      have : i < vs'.length := (List.getElem?_eq_some_iff.1 hv).1
      omega
    exact (h2 i σ.tmps[i] v (List.getElem?_eq_getElem hi) hv).repF hn (h.tmps.2 i σ.tmps[i] u (List.getElem?_eq_getElem hi) hu)
  · obtain ⟨_, hlive⟩ := h.heap.cutTo hb
    exact ⟨hx.os, hx.tape, hx.output, hx.size, hl, hx.ρ, fun id h1 h2 => hx.new id h1 (hlive id h2), fun id h1 h2 => hx.old id h1 (hlive id h2), hx.ro, hx.roNew, hx.spNew, hx.cell, hx.block⟩

/-! ### functions -/
def readV (P : Program) (σ : St) (k : V → Prop) : ResultVar → Prop
  | .tmp t => k (σ.tmps.getD t .bad)
  | .cell a t => evLoad P t σ k (σ.tmps.getD a .bad)

def readVs (P : Program) (σ : St) : List ResultVar → List V → (List V → Prop) → Prop
  | [], acc, k => k acc
  | r :: rs, acc, k => readV P σ (fun v => readVs P σ rs (acc ++ [v]) k) r

/-- What a function's end owes. -/
def retΦ (P : Program) (fn : Func) (Ψ : V → Heap → Prop) : Exit → St → Prop
  | .normal, σ | .ret, σ => (∀ id ∈ σ.defs, σ.H[id]? = some (some .defd)) ∧ σ.defs.Nodup ∧
      readVs P { σ with H := σ.defs.foldl (fun H id => H.set id none) σ.H, defs := [] } fn.results.toList [] fun vs => match vs with
        | [v] => Ψ v.strip (σ.defs.foldl (fun H id => H.set id none) σ.H)
        | vs => Ψ (.tup vs) (σ.defs.foldl (fun H id => H.set id none) σ.H)
  | _, _ => False

theorem run_resultV {σ : St} {a : Act} {w : World} {e : Env} (h : RSt G σ a w e) {r : ResultVar} {k : V → Prop} (hk : readV P σ k r) :
    ∃ u v, (match r with | .tmp t => pure (a.tmps.getD t undef) | .cell x t => do loadVar t (← asAddr (a.tmps.getD x undef)) : Sem Value).run P w = .ok u w ∧ k v ∧ RepF w e v u := by
  cases r with
  | tmp t => exact ⟨_, _, rfl, hk, h.ev (.tmp t)⟩
  | cell x t =>
    simp only [readV] at hk
    show ∃ u v, (do loadVar t (← asAddr (a.tmps.getD x undef)) : Sem Value).run P w = .ok u w ∧ k v ∧ RepF w e v u
    have hx : RepF w e (σ.tmps.getD x .bad) (a.tmps.getD x undef) := h.ev (.tmp x)
    generalize σ.tmps.getD x .bad = vx at hk hx
    generalize a.tmps.getD x undef = ux at hx ⊢
    obtain ⟨hx1, _⟩ := hx
    cases vx with
    | ptr id off =>
      simp only [evLoad] at hk
      split at hk
      · rename_i t' vs hH
        obtain ⟨rfl, hid⟩ := ptr_inv hx1
        obtain ⟨cs, hb, hl, hc, hr⟩ := blk_cel (h.heap.blk id _ hH)
        obtain ⟨u, v, hrun, hk, hv, hf⟩ := load_cells (F := FlagOk e) (us := fun j => cs.getD (off + j) undef) t (fun j v hj => by
          rw [List.getElem?_drop] at hj
          exact hc _ (Nat.lt_of_lt_of_le (List.getElem?_eq_some_iff.1 hj).1 hl)) (fun j v hj => by
          rw [List.getElem?_drop] at hj
          exact (hr _ v hj).1) (fun j v hj => by
          rw [List.getElem?_drop] at hj
          exact (hr _ v hj).2) hk
        refine ⟨u, v, ?_, hk, hv, hf (by simp [FlagOk])⟩
        simp only [asAddr, Sem.run_bind, Sem.run_pure, Result.andThen]
        exact hrun
      · exact hk.elim
    | rp cs =>
      simp only [evLoad] at hk
      cases hx1 with
      | rp _ b off us h1 h2 =>
        obtain ⟨u, v, hrun, hk, hv, _⟩ := load_cells (F := fun _ _ => True) t (fun j v hj => (h1 j v hj).1) (fun j v hj => (h2 j v hj).held) (fun _ _ _ => trivial) hk
        refine ⟨u, _, ?_, hk, hv.strip⟩
        simp only [asAddr, Sem.run_bind, Sem.run_pure, Result.andThen]
        exact hrun
    | _ => exact hk.elim

theorem run_resultVs {σ : St} {a : Act} {w : World} {e : Env} (h : RSt G σ a w e) (rs : List ResultVar) : ∀ (acc : List V) (us : List Value) (k : List V → Prop), Reps w e acc us → readVs P σ rs acc k →
    ∃ us' vs, (rs.mapM fun | .tmp t => pure (a.tmps.getD t undef) | .cell x t => do loadVar t (← asAddr (a.tmps.getD x undef)) : Sem (List Value)).run P w = .ok us' w ∧ k vs ∧ Reps w e vs (us ++ us') := by
  induction rs with
  | nil => intro acc us k hr hk; exact ⟨[], acc, rfl, hk, by simpa using hr⟩
  | cons r rs ih =>
    intro acc us k hr hk
    simp only [readVs] at hk
    obtain ⟨u, v, hrun, hk, hv⟩ := run_resultV h hk
    obtain ⟨us', vs, hrun', hk', hr'⟩ := ih (acc ++ [v]) (us ++ [u]) k ⟨by simp [hr.1], fun i x y hx hy => by
      by_cases hi : i < acc.length
      · rw [List.getElem?_append_left hi] at hx
        rw [List.getElem?_append_left (by rw [← hr.1]; exact hi)] at hy
        exact hr.2 i x y hx hy
      · rw [List.getElem?_append_right (by omega)] at hx
        rw [List.getElem?_append_right (by rw [← hr.1]; omega), ← hr.1] at hy
        obtain ⟨j, hj⟩ : ∃ j, i - acc.length = j := ⟨_, rfl⟩
        rw [hj] at hx hy
        cases j with
        | zero => simp at hx hy; subst hx; subst hy; exact hv
        | succ j => simp at hx⟩ hk
    refine ⟨u :: us', vs, ?_, hk', by simpa using hr'⟩
    rw [List.mapM_cons, Sem.run_bind, hrun]
    simp only [Result.andThen]
    rw [Sem.run_bind, hrun']
    rfl

theorem RSt.kill {σ : St} {a : Act} {w : World} {e : Env} (h : RSt G σ a w e) {id : Nat} (hid : σ.H[id]? = some (some .defd)) :
    RSt G { σ with H := σ.H.set id none } a (w.putObj (e.ρ id) (.deferred none)) e ∧ Ext σ.H w e (σ.H.set id none) (w.putObj (e.ρ id) (.deferred none)) e := by
  have hR := h.heap
  have hlt : id < σ.H.length := (List.getElem?_eq_some_iff.1 hid).1
  have hlive : live σ.H id := ⟨_, hid⟩
  have hr : e.ρ id < w.heap.size := hR.liveLt hlive
  have hblk : w.heap[e.ρ id]? = some (.deferred (some [])) := by
    have := hR.blk id _ hid
    cases this with
    | defd hb => exact hb
  have hother : ∀ r, r ≠ e.ρ id → (w.putObj (e.ρ id) (.deferred none)).heap[r]? = w.heap[r]? := fun r hr => World.putObj_heap_other hr
  have hcel : ∀ b o, cel (w.putObj (e.ρ id) (.deferred none)) b o = cel w b o ∧ fro (w.putObj (e.ρ id) (.deferred none)) b o = fro w b o := by
    intro b o
    unfold cel fro World.cell? World.frozen?
    by_cases hb : b = e.ρ id
    · subst hb
      rw [World.putObj_heap_same hr, hblk]
      exact ⟨rfl, rfl⟩
    · rw [hother b hb]
      exact ⟨rfl, rfl⟩
  have hl : ∀ j, live (σ.H.set id none) j → live σ.H j ∧ j ≠ id := by
    rintro j ⟨b, hb⟩
    by_cases hj : id = j
    · subst hj
      rw [List.getElem?_set_self hlt] at hb
      cases hb
    · rw [List.getElem?_set_ne hj] at hb
      exact ⟨⟨b, hb⟩, fun h => hj h.symm⟩
  have m : Mono w e (w.putObj (e.ρ id) (.deferred none)) e := ⟨Nat.le_refl _, fun _ _ => rfl, fun b o h => ⟨h, (hcel b o).1⟩, fun _ _ _ h => h⟩
  refine ⟨⟨⟨by simp [hR.len], fun j b hb => ?_, fun i j hi hj => hR.inj i j (hl i hi).1 (hl j hj).1, fun b o h => ?_, fun j o hj => hR.roOwn j o (hl j hj).1, fun c b o h => ?_, hR.spd, fun g cs hg => (hR.glob g cs hg).mono m⟩, h.tmps.mono m, h.defs, h.defsN, h.cur⟩,
    ⟨rfl, rfl, rfl, by simp, by simp, fun _ _ => rfl, fun j h1 h2 => ?_, fun j _ hj => (hl j hj).1, fun _ _ h => h, fun _ _ h => .inl h, fun c _ _ h => .inr ⟨c, h⟩, fun b o _ _ _ => hcel b o, fun b _ ho _ => hother b fun he => ho id hlive he.symm⟩⟩
  · obtain ⟨hj1, hj2⟩ := hl j ⟨b, hb⟩
    rw [List.getElem?_set_ne (fun h => hj2 h.symm)] at hb
    exact (hR.blk j b hb).mono m (hother _ fun he => hj2 (hR.inj j id hj1 hlive he))
  · rw [(hcel b o).1]; exact hR.ro b o h
  · obtain ⟨h1, h2, h3, h4⟩ := hR.sp c b o h
    exact ⟨by rw [(hcel b o).1]; exact h1, by rw [(hcel b o).2]; exact h2, h3, fun j hj => h4 j (hl j hj).1⟩
  · have := live_lt (hl j h2).1
    omega

theorem leaves {fn : Func} {a : Act} {R : Ending → World → Prop} (ds : List Nat) : ∀ (σ : St) (w : World) (e : Env), RSt G { σ with defs := [] } { a with defers := [] } w e → (∀ id ∈ ds, σ.H[id]? = some (some .defd)) → ds.Nodup →
    (∀ w' , RSt G { σ with H := ds.foldl (fun H id => H.set id none) σ.H, defs := [] } { a with defers := [] } w' e → Ext σ.H w e (ds.foldl (fun H id => H.set id none) σ.H) w' e →
      ∃ u, (results fn a.tmps).run P w' = .ok u w' ∧ R (.returned u) w') →
    LeavesInM Fence.wide 0 P fn a.tmps R (ds.map fun id => { target := .collected (e.ρ id), args := #[] }) .returning w := by
  induction ds with
  | nil =>
    intro σ w e h _ _ hR
    obtain ⟨u, hr, hu⟩ := hR w h (.refl _ _ _)
    exact ⟨u, hr, hu⟩
  | cons d ds ih =>
    intro σ w e h hd hnd hR
    refine ⟨by simp, .inl ⟨e.ρ d, w.putObj (e.ρ d) (.deferred none), rfl, ?_, ?_⟩⟩
    · have := h.heap.blk d _ (hd d (by simp))
      cases this with
      | defd hb => exact run_takeDeferred hb
    · obtain ⟨hk, hx⟩ := RSt.kill (σ := { σ with defs := [] }) h (hd d (by simp))
      refine ih { σ with H := σ.H.set d none } _ e hk (fun id hid => ?_) (List.nodup_cons.1 hnd).2 fun w' h' hx' => hR w' h' (hx.trans hx')
      have hne : d ≠ id := fun he => (List.nodup_cons.1 hnd).1 (he ▸ hid)
      show (σ.H.set d none)[id]? = _
      rw [List.getElem?_set_ne hne]
      exact hd id (by simp [hid])

theorem retΦ_leaves {fn : Func} {Ψ : V → Heap → Prop} {σ : St} {a : Act} {w : World} {e : Env} (h : RSt G σ a w e)
    (hk : (∀ id ∈ σ.defs, σ.H[id]? = some (some .defd)) ∧ σ.defs.Nodup ∧
      readVs P { σ with H := σ.defs.foldl (fun H id => H.set id none) σ.H, defs := [] } fn.results.toList [] fun vs => match vs with
        | [v] => Ψ v.strip (σ.defs.foldl (fun H id => H.set id none) σ.H)
        | vs => Ψ (.tup vs) (σ.defs.foldl (fun H id => H.set id none) σ.H)) {H0 : Heap} {w0 : World} {e0 : Env} (hx0 : Ext H0 w0 e0 σ.H w e) :
    LeavesInM Fence.wide 0 P fn a.tmps (fun en w' => ∃ v r H' e', en = .returned v ∧ Ψ r H' ∧ RHeap G H' w' e' ∧ RepF w' e' r v ∧ Ext H0 w0 e0 H' w' e') a.defers .returning w := by
  obtain ⟨h1, h2, h3⟩ := hk
  rw [h.defs]
  have h' : RSt G { σ with defs := [] } { a with defers := [] } w e := ⟨h.heap, h.tmps, rfl, fun id hid => by simp at hid, h.cur⟩
  refine leaves σ.defs σ w e h' h1 h2 fun w' hst hx => ?_
  obtain ⟨us', vs, hrun, hk, hr⟩ := run_resultVs (P := P) hst fn.results.toList [] [] _ ⟨rfl, fun i v u hv => by simp at hv⟩ h3
  simp only [List.nil_append] at hr
  have hres : (results fn a.tmps).run P w' = .ok (if h : us'.length = 1 then us'[0] else .tuple us'.toArray) w' := by
    unfold results
    rw [Sem.run_bind, Array.mapM_eq_mapM_toList, map_eq_pure_bind, Sem.run_bind]
    erw [hrun]
    simp [Result.andThen, Sem.run_pure]
  have hvl := hr.1
  match vs, hk, hr, hvl with
  | [v], hk, hr, hvl =>
    have h1 : us'.length = 1 := by simpa using hvl.symm
    rw [dif_pos h1] at hres
    exact ⟨_, hres, _, v.strip, _, e, rfl, hk, hst.heap, (hr.2 0 v _ rfl (by rw [List.getElem?_eq_getElem (by omega)])).1.strip, hx0.trans hx⟩
  | [], hk, hr, hvl =>
    have h1 : us'.length ≠ 1 := by simp at hvl; omega
    rw [dif_neg h1] at hres
    exact ⟨_, hres, _, .tup [], _, e, rfl, hk, hst.heap, ⟨.tup _ _ (by simpa using hvl) (fun i v u hv hu => by simp at hv), trivial⟩, hx0.trans hx⟩
  | v1 :: v2 :: vs, hk, hr, hvl =>
    have h1 : us'.length ≠ 1 := by simp at hvl; omega
    rw [dif_neg h1] at hres
    exact ⟨_, hres, _, .tup (v1 :: v2 :: vs), _, e, rfl, hk, hst.heap, ⟨.tup _ _ (by simpa using hvl) (fun i v u hv hu => (hr.2 i v u hv (by simpa using hu)).1), trivial⟩, hx0.trans hx⟩

/-- The state in which a function begins. -/
def begin_ (fn : Func) (args : List V) (H : Heap) : St := { tmps := args ++ List.replicate (fn.ntmps - args.length) (.tup []), H := H }

theorem reps_begin {w : World} {e : Env} {args : List V} {us : List Value} (h : Reps w e args us) (n : Nat) : Reps w e (args ++ List.replicate (n - args.length) (.tup [])) (us ++ List.replicate (n - us.length) undef) := by
  refine ⟨by simp [h.1], fun i v u hv hu => ?_⟩
  by_cases hi : i < args.length
  · rw [List.getElem?_append_left hi] at hv
    rw [List.getElem?_append_left (by rw [← h.1]; exact hi)] at hu
    exact h.2 i v u hv hu
  · rw [List.getElem?_append_right (by omega)] at hv
    rw [List.getElem?_append_right (by rw [← h.1]; omega)] at hu
    have hv' := List.eq_of_mem_replicate (List.mem_of_getElem? hv)
    have hu' := List.eq_of_mem_replicate (List.mem_of_getElem? hu)
    subst hv'; subst hu'
    exact ⟨.tup [] #[] rfl (fun i v u h => by simp at h), trivial⟩

/-- What a contract says less of. -/
theorem StCall.mono {f : FuncId} {args : List V} {H : Heap} {Ψ Ψ' : V → Heap → Prop} (h : StCall P G f args H Ψ) (hm : ∀ r H', Ψ r H' → Ψ' r H') : StCall P G f args H Ψ' := by
  intro w e us hR hargs
  refine CallsIn.mono (h w e us hR hargs) ?_
  rintro en w' ⟨v, r, H', e', h1, h2, h3⟩
  exact ⟨v, r, H', e', h1, hm _ _ h2, h3⟩

/-- A value in which no block of the activation's own is named. -/
inductive V.Free : V → Prop
  | im (v : Value) : V.Free (.im v)
  | str (l : List UInt8) : V.Free (.str l)
  | dat (es : Nat) (rows : List (List V)) (fl : Fl) (h : ∀ c, fl ≠ .cls c) : V.Free (.dat es rows fl)
  | rp (cs : List V) : V.Free (.rp cs)
  | agg (cs : List V) (h : ∀ v ∈ cs, V.Free v) : V.Free (.agg cs)
  | tup (cs : List V) (h : ∀ v ∈ cs, V.Free v) : V.Free (.tup cs)
  | fn (f : Fn) (a b : List V) (ha : ∀ v ∈ a, V.Free v) (hb : ∀ v ∈ b, V.Free v) : V.Free (.fn f a b)
  | bad : V.Free .bad

theorem Rep.free {w : World} {e : Env} {v : V} (hv : v.Free) : ∀ {u : Value} (e' : Env), (∀ b o, e.RO b o → e'.RO b o) → Rep w e v u → Rep w e' v u := by
  induction hv with
  | im v => intro u e' _ h; cases h; exact .im _
  | str l => intro u e' _ h; cases h; exact .str _
  | bad => intro u e' _ _; exact .bad _
  | dat es rows fl _ =>
    intro u e' hro h
    cases h with
    | nil => exact .nil _ _
    | nul => exact .nul _ _ _
    | dat _ _ _ b o cap uu hes hcap ht h1 h2 =>
      exact .dat es rows fl b o cap uu hes hcap ht (fun i j v hv => ⟨(h1 i j v hv).1, hro _ _ (h1 i j v hv).2⟩)
        (fun i j v hv => (h2 i j v hv).mono' (e := e.pure) (e' := e'.pure) (Nat.le_refl 0) (fun _ h => absurd h (Nat.not_lt_zero _)) fun b o h => ⟨hro b o h, rfl⟩)
  | rp cs =>
    intro u e' hro h
    cases h with
    | rp _ b o uu h1 h2 =>
      exact .rp cs b o uu (fun j v hv => ⟨(h1 j v hv).1, hro _ _ (h1 j v hv).2⟩)
        (fun j v hv => (h2 j v hv).mono' (e := e.pure) (e' := e'.pure) (Nat.le_refl 0) (fun _ h => absurd h (Nat.not_lt_zero _)) fun b o h => ⟨hro b o h, rfl⟩)
  | agg cs hc ih =>
    intro u e' hro h
    cases h with
    | agg _ us hl h1 => exact .agg cs us hl fun i v u hv hu => ih v (List.mem_of_getElem? hv) e' hro (h1 i v u hv hu)
  | tup cs hc ih =>
    intro u e' hro h
    cases h with
    | tup _ us hl h1 => exact .tup cs us hl fun i v u hv hu => ih v (List.mem_of_getElem? hv) e' hro (h1 i v u hv hu)
  | fn f a b ha hb iha ihb =>
    intro u e' hro h
    cases h with
    | fn _ _ _ f' c' hl1 hl2 h1 h2 =>
      exact .fn f a b f' c' hl1 hl2 (fun i v u hv hu => iha v (List.mem_of_getElem? hv) e' hro (h1 i v u hv hu)) (fun i v u hv hu => ihb v (List.mem_of_getElem? hv) e' hro (h2 i v u hv hu))

theorem V.Free.flagOk {v : V} (h : v.Free) (e : Env) (u : Value) : FlagOk e v u := by
  cases h with
  | dat es rows fl h =>
    cases fl with
    | cls c => exact absurd rfl (h c)
    | no => trivial
    | tight => trivial
  | _ => trivial

/-- A function that is handed no block of the caller's is proved over the empty heap, and serves over every one. -/
theorem StCall.free {f : FuncId} {args : List V} {Ψ : V → Prop} (ha : ∀ v ∈ args, v.Free) (h : StCall P G f args [] fun r _ => r.Free ∧ Ψ r) (H : Heap) :
    StCall P G f args H fun r H' => H' = H ∧ Ψ r := by
  intro w e us hR hargs
  let e0 : Env := { N := 0, ρ := e.ρ, RO := e.RO, Sp := fun _ _ _ => False }
  have hR0 : RHeap G [] w e0 := ⟨rfl, fun id b hb => by simp at hb, fun i j ⟨b, hb⟩ => by simp at hb, hR.ro, fun id o ⟨b, hb⟩ => by simp at hb, fun c b o h => h.elim, fun _ _ _ _ h => h.elim,
    fun g cs hg => Rep.free (e := e) (.rp cs) e0 (fun _ _ h => h) (hR.glob g cs hg)⟩
  have hargs0 : Reps w e0 args us := ⟨hargs.1, fun i v u hv hu => ⟨Rep.free (e := e) (ha v (List.mem_of_getElem? hv)) e0 (fun _ _ h => h) (hargs.2 i v u hv hu).1, (ha v (List.mem_of_getElem? hv)).flagOk _ _⟩⟩
  refine CallsIn.mono (h w e0 us hR0 hargs0) ?_
  rintro en w' ⟨v, r, H', e', rfl, ⟨hfree, hΨ⟩, hR', hv, hx⟩
  have hnl : ∀ id, ¬ live ([] : Heap) id := fun id ⟨b, hb⟩ => by simp at hb
  have hblock : ∀ b, b < w.heap.size → w'.heap[b]? = w.heap[b]? := fun b hb => hx.block b hb (fun id hl => absurd hl (hnl id)) (fun c o h => h)
  have hcel : ∀ b o, b < w.heap.size → cel w' b o = cel w b o ∧ fro w' b o = fro w b o := by
    intro b o hb
    unfold cel fro World.cell? World.frozen?
    rw [hblock b hb]
    exact ⟨rfl, rfl⟩
  let e1 : Env := { N := e.N, ρ := e.ρ, RO := e'.RO, Sp := e.Sp }
  have m : Mono w e w' e1 := ⟨Nat.le_refl _, fun _ _ => rfl, fun b o h => ⟨hx.ro b o h, (hcel b o (lt_of_cel (hR.ro b o h))).1⟩, fun _ _ _ h => h⟩
  have hro : ∀ b o, e'.RO b o → e.RO b o ∨ w.heap.size ≤ b := by
    intro b o h
    rcases hx.roNew b o h with h | h | ⟨c, h⟩ | ⟨id, hl, _⟩
    · exact .inl h
    · exact .inr h
    · exact h.elim
    · exact absurd hl (hnl id)
  refine ⟨v, r, H, e1, rfl, ⟨rfl, hΨ⟩, ⟨hR.len, fun id b hb => (hR.blk id b hb).mono m (hblock _ (hR.blk id b hb).lt), hR.inj, hR'.ro, fun id o hl h => ?_, fun c b o h => ?_, hR.spd, fun g cs hg => (hR.glob g cs hg).mono m⟩,
    ⟨Rep.free (e := e') hfree e1 (fun _ _ h => h) hv.1, hfree.flagOk _ _⟩,
    ⟨hx.os, hx.tape, hx.output, hx.size, Nat.le_refl _, fun _ _ => rfl, fun id h1 h2 => ?_, fun _ _ h => h, hx.ro, fun b o h => ?_, fun c _ _ h => .inr ⟨c, h⟩, fun b o hb _ _ => hcel b o hb, fun b hb _ _ => hblock b hb⟩⟩
  · rcases hro _ _ h with h | h
    · exact hR.roOwn id o hl h
    · have := hR.liveLt hl
      change w.heap.size ≤ e.ρ id at h
      omega
  · obtain ⟨h1, h2, h3, h4⟩ := hR.sp c b o h
    have hlt := lt_of_cel h1
    refine ⟨by rw [(hcel b o hlt).1]; exact h1, by rw [(hcel b o hlt).2]; exact h2, fun h5 => ?_, h4⟩
    rcases hro _ _ h5 with h | h
    · exact h3 h
    · omega
  · have := live_lt h2
    omega
  · rcases hro _ _ h with h | h
    · exact .inl h
    · exact .inr (.inl h)

end Go.Abs

/-! Sound11 -/
/- Rounds; ranges over functions. -/
namespace Go.Abs
open Go.RowKit

variable {P : Program} {G : Nat → Option (List V)}

theorem strip_demote (p : Nat → Bool) (v : V) : (V.demote p v).strip = v.strip := by
  cases v with
  | dat es rows fl => cases fl with
    | cls c => by_cases h : p c = true <;> simp [V.demote, V.strip, h]
    | _ => rfl
  | _ => rfl

theorem Reps.set {w : World} {e : Env} {vs : List V} {us : Array Value} (h : Reps w e vs us.toList) (p : Nat) {v : V} {u : Value} (hv : RepF w e v u) : Reps w e (vs.set p v) (us.setIfInBounds p u).toList := by
  refine ⟨by simpa using h.1, fun i x y hx hy => ?_⟩
  rw [Array.toList_setIfInBounds] at hy
  rw [List.getElem?_set] at hx hy
  by_cases hp : p = i
  · subst hp
    rw [if_pos rfl] at hx hy
    split at hx
    · split at hy
      · cases hx; cases hy; exact hv
      · cases hy
    · cases hx
  · rw [if_neg hp] at hx hy
    exact h.2 i x y hx hy

/-- Parameters get their values. -/
def setParams : List Tmp → List V → List V → List V
  | p :: ps, a :: as, ts => setParams ps as (ts.set p a)
  | _, _, ts => ts

theorem reps_params {w : World} {e : Env} (ps : List Tmp) : ∀ (as : List V) (us : List Value) (ts : List V) (xs : Array Value), Reps w e as us → Reps w e ts xs.toList →
    Reps w e (setParams ps as ts) ((ps.zip us).foldl (fun tmps (x : Tmp × Value) => tmps.setIfInBounds x.1 x.2) xs).toList := by
  induction ps with
  | nil => intro as us ts xs h1 h2; cases as <;> exact h2
  | cons p ps ih =>
    intro as us ts xs h1 h2
    cases as with
    | nil =>
      cases us with
      | nil => exact h2
      | cons u us => have := h1.1; simp at this
    | cons a as =>
      cases us with
      | nil => have := h1.1; simp at this
      | cons u us =>
        exact ih as us _ _ ⟨by have := h1.1; simpa using this, fun i x y hx hy => h1.2 (i + 1) x y (by simpa using hx) (by simpa using hy)⟩ (h2.set p (h1.2 0 a u rfl rfl))

theorem RepBlk.loopInv {w : World} {e : Env} {r : Nat} {st : LoopState} {pend : Option Code} {tmps : List V} {ps : Array Tmp} {as bd : Code} {d : Nat} (h : RepBlk w e r (.loop st pend tmps ps as bd d)) :
    ∃ fn us, w.heap[r]? = some (.loop { state := st, pending := pend, fn, tmps := us, params := ps, assign := as, body := bd, defers := e.ρ d }) ∧ d < e.N ∧ tmps.length = us.size ∧
      (∀ (i : Nat) (v : V) (u : Value), tmps[i]? = some v → us[i]? = some u → Rep w e v u) := by
  cases h with
  | loop _ _ fn _ _ _ _ _ us hb hd hl hh => exact ⟨fn, us, hb, hd, hl, hh⟩

/-- The record changes its state. -/
theorem RHeap.setLoop {H : Heap} {w : World} {e : Env} (hR : RHeap G H w e) {id : Nat} {st : LoopState} {pend : Option Code} {tmps : List V} {ps : Array Tmp} {as bd : Code} {d : Nat}
    (hid : H[id]? = some (some (.loop st pend tmps ps as bd d))) (st' : LoopState) (pend' : Option Code) (fn : FuncId) (us : Array Value)
    (_hb : w.heap[e.ρ id]? = some (.loop { state := st, pending := pend, fn, tmps := us, params := ps, assign := as, body := bd, defers := e.ρ d }))
    (hd : d < e.N) (hl : tmps.length = us.size) (hh : ∀ (i : Nat) (v : V) (u : Value), tmps[i]? = some v → us[i]? = some u → Rep w e v u) :
    let w' := w.putObj (e.ρ id) (.loop { state := st', pending := pend', fn, tmps := us, params := ps, assign := as, body := bd, defers := e.ρ d })
    Mono w e w' e ∧ RHeap G (H.set id (some (.loop st' pend' tmps ps as bd d))) w' e ∧ Ext H w e (H.set id (some (.loop st' pend' tmps ps as bd d))) w' e := by
  have hlive : live H id := ⟨_, hid⟩
  refine hR.setBlk hlive _ (fun r hr => World.putObj_heap_other hr) World.putObj_size ⟨rfl, rfl, rfl⟩ fun m => ?_
  exact .loop st' pend' fn tmps ps as bd d us (World.putObj_heap_same (hR.liveLt hlive)) hd hl fun i v u hv hu => (hh i v u hv hu).mono m

/-- What a round's end owes. -/
def roundΦ (id : Nat) (Ψ : V → Heap → Prop) (x : Exit) (σ : St) : Prop :=
  match σ.H[id]? with
  | some (some (.loop _ _ tmps ps as bd d)) => match x with
    | .normal => Ψ (.bool true) (σ.H.set id (some (.loop .ready none tmps ps as bd d)))
    | .ret => Ψ (.bool false) (σ.H.set id (some (.loop .done (some .ret) tmps ps as bd d)))
    | .exit i => Ψ (.bool false) (σ.H.set id (some (.loop .done (some (.exit i)) tmps ps as bd d)))
    | .goto l => Ψ (.bool false) (σ.H.set id (some (.loop .done (some (.goto l)) tmps ps as bd d)))
    | _ => False
  | _ => False

theorem round_end {w0 : World} {e0 : Env} {H0 : Heap} {id : Nat} {Ψ : V → Heap → Prop} {x : Exit} {σ : St} {a : Act} {w : World} {e : Env} (h : RSt G σ a w e) (hx : Ext H0 w0 e0 σ.H w e) (hid : e.ρ id = e0.ρ id)
    (hk : roundΦ id Ψ x σ) :
    roundPost P (e0.ρ id) (fun en w' => ∃ v r H' e', en = .returned v ∧ Ψ r H' ∧ RHeap G H' w' e' ∧ RepF w' e' r v ∧ Ext H0 w0 e0 H' w' e') x a w := by
  unfold roundΦ at hk
  split at hk
  · rename_i st pend tmps ps as bd d hH
    obtain ⟨fn, us, hb, hd, hl, hh⟩ := (h.heap.blk id _ hH).loopInv
    rw [← hid]
    have fin : ∀ (jump : Option Code) (st' : LoopState), st' = (if jump.isNone then .ready else .done) →
        Ψ (.bool jump.isNone) (σ.H.set id (some (.loop st' jump tmps ps as bd d))) →
        ∃ v w', (Instr.endRound (e.ρ id) jump).run P w = .ok v w' ∧ ∃ v' r H' e', Ending.returned v = .returned v' ∧ Ψ r H' ∧ RHeap G H' w' e' ∧ RepF w' e' r v' ∧ Ext H0 w0 e0 H' w' e' := by
      intro jump st' hst hΨ
      subst hst
      obtain ⟨m, hR', hx'⟩ := h.heap.setLoop hH (if jump.isNone then .ready else .done) jump fn us hb hd hl hh
      exact ⟨_, _, run_endRound jump hb, _, _, _, e, rfl, hΨ, hR', repF_im _ _ _, hx.trans hx'⟩
    cases x with
    | normal => exact fin none .ready rfl hk
    | ret => exact fin (some .ret) .done rfl hk
    | exit i => exact fin (some (.exit i)) .done rfl hk
    | goto l => exact fin (some (.goto l)) .done rfl hk
    | panic c => exact hk.elim
    | outgrown => exact hk.elim
  · exact hk.elim

theorem WPc.mono {c : Code} {Φ Φ' : Exit → St → Prop} {σ : St} (h : WPc P G c Φ σ) (hm : ∀ x σ', Φ x σ' → Φ' x σ') : WPc P G c Φ' σ := fun a w e hst =>
  wpIn_mono (h a w e hst) fun _ _ _ ⟨σ', e', h1, h2⟩ => ⟨σ', e', hm _ _ h1, h2⟩

/-- A round, out of the loop's record. -/
theorem stYield {id : Nat} {pend : Option Code} {tmps : List V} {ps : Array Tmp} {as bd : Code} {d : Nat} {args : List V} {H : Heap} {Ψ : V → Heap → Prop}
    (hid : H[id]? = some (some (.loop .ready pend tmps ps as bd d))) (hs : args.length = ps.size)
    (hk : WPc P G as (fun x σ1 => x = .normal ∧ σ1.H[id]? = some (some (.loop .ready pend tmps ps as bd d)) ∧
        WPc P G bd (roundΦ id Ψ) { σ1 with H := σ1.H.set id (some (.loop .busy pend tmps ps as bd d)) })
      { tmps := setParams ps.toList args (tmps.map V.strip), H := H, defs := [], cur := some id }) : StYield P G id args H Ψ := by
  intro w e us hR hargs
  obtain ⟨fn, us0, hb, hd, hl, hh⟩ := (hR.blk id _ hid).loopInv
  refine ⟨_, _, _, _, _, _, _, rfl, run_yield hb (by simpa using hargs.1.symm.trans hs), rfl, ?_⟩
  refine roundIn_of_wpIn trivial ?_
  have hN : id < e.N := by rw [hR.len]; exact (List.getElem?_eq_some_iff.1 hid).1
  have ht : Reps w e (setParams ps.toList args (tmps.map V.strip)) ((ps.zip us.toArray).foldl (fun tmps (x : Tmp × Value) => tmps.setIfInBounds x.1 x.2) us0).toList := by
    have := reps_params ps.toList args us (tmps.map V.strip) us0 hargs ⟨by simpa using hl, fun i v u hv hu => by
      rw [List.getElem?_map] at hv
      obtain ⟨v', hv', rfl⟩ := Option.map_eq_some_iff.1 hv
      exact (hh i v' u hv' (by simpa using hu)).strip⟩
    rw [← Array.foldl_toList]
    simpa using this
  have hst : RSt G { tmps := setParams ps.toList args (tmps.map V.strip), H := H, defs := [], cur := some id } { tmps := (ps.zip us.toArray).foldl (fun tmps (x : Tmp × Value) => tmps.setIfInBounds x.1 x.2) us0, defers := [] } w e :=
    ⟨hR, ht, rfl, fun i hi => by simp at hi, fun i hi => by simp at hi; omega⟩
  refine wpIn_mono (hk _ w e hst) ?_
  rintro x a1 w1 ⟨σ1, e1, ⟨rfl, hH1, hk1⟩, hc1, hst1, hx1⟩
  obtain ⟨fn1, us1, hb1, hd1, hl1, hh1⟩ := (hst1.heap.blk id _ hH1).loopInv
  have hρ : e1.ρ id = e.ρ id := hx1.ρ id (by rw [← hR.len]; exact hN)
  obtain ⟨m, hR2, hx2⟩ := hst1.heap.setLoop hH1 .busy pend fn1 us1 hb1 hd1 hl1 hh1
  refine ⟨_, run_beginRound (by rw [← hρ]; exact hb1) rfl, ?_⟩
  rw [← hρ]
  have hst2 := hst1.setBlk m hR2
  have := hk1 a1 _ e1 hst2
  simp only [hc1, Option.map_some] at this
  refine wpIn_mono this ?_
  rintro x a3 w3 ⟨σ3, e3, hΦ, hc3, hst3, hx3⟩
  have hρ3 : e3.ρ id = e.ρ id := by
    refine Eq.trans (hx3.ρ id ?_) hρ
    have := live_lt ⟨_, hH1⟩
    simpa using this
  rw [hρ]
  exact round_end hst3 ((hx1.trans hx2).trans hx3) hρ3 hΦ

theorem RHeap.forget {H : Heap} {w : World} {e : Env} (hR : RHeap G H w e) (id : Nat) : RHeap G (H.set id none) w e ∧ ∀ j, live (H.set id none) j → live H j := by
  have hl : ∀ j, live (H.set id none) j → live H j ∧ (H.set id none)[j]? = H[j]? := by
    rintro j ⟨b, hb⟩
    by_cases hj : id = j
    · subst hj
      rw [List.getElem?_set] at hb
      simp at hb
    · rw [List.getElem?_set_ne hj] at hb ⊢
      exact ⟨⟨b, hb⟩, rfl⟩
  refine ⟨⟨by simp [hR.len], fun j b hb => ?_, fun i j hi hj => hR.inj i j (hl i hi).1 (hl j hj).1, hR.ro, fun j o hj => hR.roOwn j o (hl j hj).1, fun c b o h => ?_, hR.spd, hR.glob⟩, fun j hj => (hl j hj).1⟩
  · have := (hl j ⟨b, hb⟩).2
    rw [this] at hb
    exact hR.blk j b hb
  · obtain ⟨h1, h2, h3, h4⟩ := hR.sp c b o h
    exact ⟨h1, h2, h3, fun j hj => h4 j (hl j hj).1⟩

theorem Ext.forget {H0 H : Heap} {w0 w : World} {e0 e : Env} (hx : Ext H0 w0 e0 H w e) (id : Nat) (hl : ∀ j, live (H.set id none) j → live H j) : Ext H0 w0 e0 (H.set id none) w e :=
  ⟨hx.os, hx.tape, hx.output, hx.size, by simpa using hx.len, hx.ρ, fun j h1 h2 => hx.new j h1 (hl j h2), fun j h1 h2 => hx.old j h1 (hl j h2), hx.ro, hx.roNew, hx.spNew, hx.cell, hx.block⟩

/-- Behind a range over a function: the record has been given up, the pending jump is taken. -/
def rangeΦ (P : Program) (G : Nat → Option (List V)) (id : Nat) (σ : St) (ds : List Nat) (Φ : Exit → St → Prop) (H2 : Heap) : Prop :=
  match H2[id]? with
  | some (some (.loop st pend _ _ _ _ _)) => st ≠ .busy ∧ match pend with
    | none => Φ .normal { σ with tmps := σ.tmps.map V.strip, H := H2.set id none, defs := ds }
    | some c => evCode P G c Φ { σ with tmps := σ.tmps.map V.strip, H := H2.set id none, defs := ds }
  | _ => False

/-- A range over a function, at no other one. -/
theorem wpc_rangeFunc {f : Operand} {ps : Array Tmp} {as bd : Code} {Φ : Exit → St → Prop} {σ : St} {g : FuncId} {fn : Func} {first caps : List V}
    (hcur : σ.cur = none) (hf : σ.ev f = .fn (.func g) first caps) (hfn : P.funcs[g]? = some fn) (hbody : fn.body.isSome) (hname : (fn.name == "runtime.NumGoroutine") = false)
    (hk : StCall P G g ((first ++ [V.yld (σ.H.length + 1)] ++ caps).map V.strip) (σ.H ++ [some .defd] ++ [some (.loop .ready none (σ.tmps.map V.strip) ps as bd σ.H.length)])
      fun _ H2 => rangeΦ P G (σ.H.length + 1) σ (σ.H.length :: σ.defs) Φ H2) : WPc P G (.rangeFunc f ps as bd) Φ σ := by
  intro a w e h
  rw [hcur]
  refine wpIn_rangeFunc fun fn0 _ => ?_
  have hN := h.heap.len
  -- the two blocks
  let o1 : Obj := .deferred (some [])
  have hst1 := h.push o1 .defd (.defd (World.alloc_heap_new w o1))
  have hx1 := (h.heap.push o1 .defd (.defd (World.alloc_heap_new w o1))).2
  let w1 := w.alloc o1
  let e1 := e.push w.heap.size
  have hρ1 : e1.ρ σ.H.length = w.heap.size := by rw [← hN]; exact e.push_new _
  let o2 : Obj := .loop { state := .ready, pending := none, fn := fn0, tmps := a.tmps, params := ps, assign := as, body := bd, defers := w.heap.size }
  have hN1 : e1.N = σ.H.length + 1 := by show e.N + 1 = _; omega
  have hb2 : RepBlk (w1.alloc o2) (e1.push w1.heap.size) w1.heap.size (.loop .ready none (σ.tmps.map V.strip) ps as bd σ.H.length) := by
    have m2 : Mono w1 e1 (w1.alloc o2) (e1.push w1.heap.size) := Mono.push hst1.heap o2 _
    refine .loop .ready none fn0 _ ps as bd σ.H.length a.tmps ?_ ?_ ?_ fun i v u hv hu => ?_
    · rw [World.alloc_heap_new w1 o2, e1.push_old _ (by omega), hρ1]
    · show σ.H.length < e1.N + 1
      omega
    · have := h.tmps.1
      simpa using this
    · rw [List.getElem?_map] at hv
      obtain ⟨v', hv', rfl⟩ := Option.map_eq_some_iff.1 hv
      exact ((hst1.tmps.2 i v' u hv' (by simpa using hu)).1.mono m2).strip.1
  have hst2 := hst1.push o2 _ hb2
  have hx2 := (hst1.heap.push o2 _ hb2).2
  let w2 := w1.alloc o2
  let e2 := e1.push w1.heap.size
  have hρ2 : e2.ρ (σ.H.length + 1) = w.heap.size + 1 := by
    have : e2.ρ e1.N = w1.heap.size := e1.push_new _
    rw [hN1] at this
    rw [this]
    simp [w1]
  have hfv := hst2.ev f
  have hev : ({ { σ with H := σ.H ++ [some Blk.defd] } with H := σ.H ++ [some Blk.defd] ++ [some (Blk.loop .ready none (σ.tmps.map V.strip) ps as bd σ.H.length)] } : St).ev f = .fn (.func g) first caps := by
    cases f <;> exact hf
  rw [hev] at hfv
  generalize huf : a.eval f = uf at hfv
  obtain ⟨hf1, _⟩ := hfv
  cases hf1 with
  | fn _ _ _ first' caps' hl1 hl2 hr1 hr2 =>
    refine ⟨w.heap.size + 1, _, w2, ⟨.fn (.func g) caps', first' ++ #[.func (.yield (w.heap.size + 1)) #[] #[]]⟩, w2, g, (first' ++ #[.func (.yield (w.heap.size + 1)) #[] #[]]) ++ caps', w2, run_enterLoop_outer fn0 a.tmps ps as bd, ?_, fun _ _ => trivial, ?_, fun hh => by simp [FW, Fence.wide] at hh, ?_⟩
    · simp only [resolve, huf]
      simp [Deferred.ofValue, Act.eval]
    · simp only [invoke, callFunc, program, Sem.run_bind, Result.andThen]
      simp only [Sem.run, hfn, hname, Bool.false_eq_true, if_false]
      rw [if_neg (by rw [Option.isNone_iff_eq_none]; exact Option.isSome_iff_ne_none.1 hbody)]
      rfl
    · have hall : Reps w2 (e2.hide (heapCls (σ.H ++ [some Blk.defd] ++ [some (Blk.loop .ready none (σ.tmps.map V.strip) ps as bd σ.H.length)]))) ((first ++ [V.yld (σ.H.length + 1)] ++ caps).map V.strip) ((first' ++ #[Value.func (.yield (w.heap.size + 1)) #[] #[]]) ++ caps').toList := by
        refine ⟨by simp [hl1, hl2], fun i v u hv hu => ?_⟩
        rw [List.getElem?_map] at hv
        obtain ⟨v', hv', rfl⟩ := Option.map_eq_some_iff.1 hv
        have hrep : Rep w2 e2 v' u := by
          simp only [Array.toList_append, List.append_assoc] at hu hv'
          by_cases hi : i < first.length
          · rw [List.getElem?_append_left hi] at hv'
            rw [List.getElem?_append_left (by simpa [← hl1] using hi)] at hu
            exact hr1 i v' u hv' (by simpa using hu)
          · rw [List.getElem?_append_right (by omega)] at hv'
            rw [List.getElem?_append_right (by simp [← hl1]; omega)] at hu
            simp only [Array.length_toList, ← hl1] at hu
            obtain ⟨j, hj⟩ : ∃ j, i - first.length = j := ⟨_, rfl⟩
            rw [hj] at hv' hu
            cases j with
            | zero =>
              simp at hv' hu
              subst hv'; subst hu
              rw [← hρ2]
              refine .yld _ ?_
              show σ.H.length + 1 < e1.N + 1
              omega
            | succ j => exact hr2 j v' u (by simpa using hv') (by simpa using hu)
        exact (hrep.hide _).strip
      refine CallsIn.mono (F := Fence.wide) (hk w2 _ _ hst2.heap.hide hall) ?_
      rintro en w' ⟨v, r, H', e', rfl, hΦ, hR', hv, hx⟩
      have hst3 := hst2.after hR' hx
      obtain ⟨_, _, hx3⟩ := unhide_ok hst2.heap hR' hx
      let e3 := e'.unhide e2 (heapCls (σ.H ++ [some Blk.defd] ++ [some (Blk.loop .ready none (σ.tmps.map V.strip) ps as bd σ.H.length)]))
      unfold rangeΦ at hΦ
      split at hΦ
      · rename_i st pend tmps' ps' as' bd' d' hH
        obtain ⟨hbusy, hΦ⟩ := hΦ
        obtain ⟨fn1, us1, hb1, hd1, hl1', hh1⟩ := (hst3.heap.blk _ _ hH).loopInv
        have hρ3 : e3.ρ (σ.H.length + 1) = w.heap.size + 1 := by rw [← hρ2]; exact hx3.ρ _ (by simp)
        have hρ3' : e3.ρ σ.H.length = w.heap.size := by
          rw [hx3.ρ _ (by simp)]
          show e2.ρ _ = _
          rw [e1.push_old _ (by omega), hρ1]
        obtain ⟨m4, hR4, hx4⟩ := hst3.heap.setLoop hH .exhausted pend fn1 us1 hb1 hd1 hl1' hh1
        obtain ⟨hR5, hl5⟩ := hR4.forget (σ.H.length + 1)
        have hx5 := hx4.forget (σ.H.length + 1) hl5
        have hset : ∀ b : Option Blk, (H'.set (σ.H.length + 1) b).set (σ.H.length + 1) none = H'.set (σ.H.length + 1) none := fun b => List.set_set ..
        have hN5 := hR5.len
        have hend := run_endLoop (P := P) hb1 hbusy
        rw [hρ3] at hend
        refine ⟨_, _, hend, ?_⟩
        have ht : Reps w' e3 (σ.tmps.map V.strip) a.tmps.toList := by
          have := hst3.tmps.strip
          simp only [St.afterCall, List.map_map] at this
          refine (List.map_congr_left fun v _ => ?_) ▸ this
          exact strip_demote _ v
        have hst5 : RSt G { σ with tmps := σ.tmps.map V.strip, H := H'.set (σ.H.length + 1) none, defs := σ.H.length :: σ.defs } { a with defers := [{ target := .collected w.heap.size, args := #[] }] ++ a.defers }
            (w'.putObj (e3.ρ (σ.H.length + 1)) (.loop { state := .exhausted, pending := pend, fn := fn1, tmps := us1, params := ps', assign := as', body := bd', defers := e3.ρ d' })) e3 := by
          refine ⟨by rw [← hset]; exact hR5, ht.mono m4, ?_, ?_, fun id hid => by rw [hcur] at hid; cases hid⟩
          · have := hst3.defs
            simp only [St.afterCall] at this
            rw [this]
            simp only [List.map_cons, List.singleton_append]
            rw [hρ3']
          · intro id hid
            simp only [List.mem_cons] at hid
            have h1 : e3.N = H'.length := by
              have := hst3.heap.len
              exact this
            have h2 := hx3.len
            simp at h2
            rcases hid with rfl | hid
            · omega
            · have := h.defsN id hid
              omega
        have hxall : Ext σ.H w e (H'.set (σ.H.length + 1) none) (w'.putObj (e3.ρ (σ.H.length + 1)) (.loop { state := .exhausted, pending := pend, fn := fn1, tmps := us1, params := ps', assign := as', body := bd', defers := e3.ρ d' })) e3 := by
          rw [← hset]
          exact ((hx1.trans hx2).trans hx3).trans hx5
        rw [← hρ3]
        cases pend with
        | none => exact ⟨_, e3, hΦ, hcur.symm ▸ hcur, hst5, hxall⟩
        | some c =>
          have := evCode_sound c _ _ hΦ _ _ _ hst5
          simp only [hcur] at this
          refine wpIn_mono this ?_
          rintro x a6 w6 ⟨σ6, e6, hΦ6, hc6, hst6, hx6⟩
          exact ⟨σ6, e6, hΦ6, hc6, hst6, hxall.trans hx6⟩
      · exact hΦ.elim
end Go.Abs

/-! Sound12 -/
/- Regions that draw their order: quiet operations in any order, the others behind them. -/
set_option linter.unusedVariables false
namespace Go.Abs
open Go.RowKit

variable {P : Program} {G : Nat → Option (List V)}

/-! ### one value each -/
/-- A condition that asks for one value. -/
def Det (R : (V → Prop) → Prop) : Prop := ∀ K, R K → ∃ u, K u ∧ ∀ K' : V → Prop, K' u → R K'

theorem det_id (v : V) : Det fun K => K v := fun _ h => ⟨v, h, fun _ h => h⟩
theorem det_false : Det fun _ => False := fun _ h => False.elim h
theorem det_and {p : Prop} {R : (V → Prop) → Prop} (h : Det R) : Det fun K => p ∧ R K := fun _ ⟨hp, hK⟩ =>
  let ⟨u, h1, h2⟩ := h _ hK
  ⟨u, h1, fun K' hk => ⟨hp, h2 K' hk⟩⟩
theorem det_map {R : (V → Prop) → Prop} (f : V → V) (h : Det R) : Det fun K => R fun v => K (f v) := fun K hK =>
  let ⟨u, h1, h2⟩ := h _ hK
  ⟨f u, h1, fun _ hk => h2 _ hk⟩
theorem det_ite (b : Bool) (x y : V) : Det fun K => (b = true → K x) ∧ (b = false → K y) := by
  intro K hK
  cases b with
  | true => exact ⟨x, hK.1 rfl, fun K' hk => ⟨fun _ => hk, fun h => Bool.noConfusion h⟩⟩
  | false => exact ⟨y, hK.2 rfl, fun K' hk => ⟨fun h => Bool.noConfusion h, fun _ => hk⟩⟩
theorem det_loadCells (t : TypeId) (vs : List V) : Det fun K => evLoadCells P t vs K := by
  unfold evLoadCells
  cases tk P t with
  | none => exact det_false
  | some x =>
    obtain ⟨b, n⟩ := x
    cases b with
    | true => exact det_and (det_id _)
    | false => cases vs with
      | nil => exact det_false
      | cons v vs => exact det_id _

theorem det_load (t : TypeId) (σ : St) (x : V) : Det fun K => evLoad P t σ K x := by
  cases x with
  | ptr id off =>
    simp only [evLoad]
    split
    · exact det_loadCells _ _
    · exact det_false
  | rp cs => exact det_map V.strip (det_loadCells _ _)
  | _ => exact det_false

theorem det_int (op : BinOp) (k : IntKind) (a b : Int) : Det fun K => evInt op k a b K := by
  unfold evInt
  cases op <;> first
    | exact det_id _
    | exact det_and (det_id _)
    | exact det_false

theorem det_str (op : BinOp) (a b : List UInt8) : Det fun K => evStr op a b K := by
  unfold evStr
  cases op <;> first
    | exact det_id _
    | exact det_and (det_id _)
    | exact det_false

theorem det_bin (op : BinOp) (t : TypeId) (x y : V) : Det fun K => evBin P op t x y K := by
  unfold evBin
  split
  · split
    · exact det_and (det_id _)
    · exact det_and (det_id _)
    · exact det_and (det_int _ _ _ _)
  · refine det_and ?_
    split
    · exact det_id _
    · exact det_id _
    · exact det_false
  · exact det_str _ _ _
  · refine det_and ?_
    split
    · refine det_and ?_
      split
      · exact det_id _
      · exact det_id _
      · exact det_false
    · exact det_false
  · exact det_false

theorem det_un (op : UnOp) (x : V) : Det fun K => evUn op x K := by
  unfold evUn
  split
  · exact det_id _
  · exact det_id _
  · exact det_false

theorem det_field (t : TypeId) (f : Nat) (x : V) : Det fun K => evField P t f K x := by
  unfold evField
  split
  · split
    · exact det_map V.strip (det_loadCells _ _)
    · exact det_false
  · exact det_false

theorem det_fieldAddr (t : TypeId) (f : Nat) (x : V) : Det fun K => evFieldAddr P t f K x := by
  unfold evFieldAddr
  split
  · split
    · refine det_and ?_
      split
      · exact det_id _
      · exact det_id _
      · exact det_false
    · exact det_false
  · exact det_false

theorem det_index (t : TypeId) (x i : V) : Det fun K => evIndex P t x i K := by
  unfold evIndex
  split
  · split
    · exact det_and (det_and (det_map V.strip (det_loadCells _ _)))
    · exact det_false
  · exact det_and (det_and (fun _ ⟨b, h1, h2⟩ => ⟨_, h2, fun _ hk => ⟨b, h1, hk⟩⟩))
  · exact det_false

theorem det_indexAddr (t : TypeId) (x i : V) : Det fun K => evIndexAddr P t x i K := by
  unfold evIndexAddr
  split
  · split
    · split
      · exact det_and (det_and (det_and (fun _ ⟨b, h1, h2⟩ => ⟨_, h2, fun _ hk => ⟨b, h1, hk⟩⟩)))
      · exact det_and (det_and (det_and (det_id _)))
      · exact det_false
    · split
      · exact det_and (det_and (det_id _))
      · exact det_and (det_and (det_id _))
      · exact det_false
    · exact det_false
  · exact det_false

theorem det_find (k : V) (F : Option (Nat × V) → V) : ∀ (es : List (V × V)) (i : Nat), Det fun K => evFind k (fun r => K (F r)) es i
  | [], _ => det_id _
  | e :: es, i => by
    unfold evFind
    split
    · rename_i b hb
      intro K hK
      cases b with
      | true => exact ⟨_, hK.1 rfl, fun K' hk => ⟨fun _ => hk, fun h => Bool.noConfusion h⟩⟩
      | false =>
        obtain ⟨u, h1, h2⟩ := det_find k F es (i + 1) K (hK.2 rfl)
        exact ⟨u, h1, fun K' hk => ⟨fun h => Bool.noConfusion h, fun _ => h2 K' hk⟩⟩
    · exact det_false

theorem det_lookup (t : TypeId) (key : V) (ok : Bool) (σ : St) (x : V) : Det fun K => evLookup P t key ok σ K x := by
  cases x with
  | mp id =>
    simp only [evLookup]
    split
    · split
      · rename_i z hz
        have h1 := det_find key (fun r => match ok with
          | true => match r with
            | none => .tup [z, .bool false]
            | some (_, v) => .tup [v, .bool true]
          | false => match r with
            | none => z.strip
            | some (_, v) => v.strip)
        cases ok with
        | true =>
          refine det_and ?_
          have := h1 ‹_› 0
          refine fun K hK => ?_
          obtain ⟨u, g1, g2⟩ := this K (by
            refine (congrArg (fun f => evFind key f _ 0) (funext fun r => ?_)).mp hK
            cases r <;> rfl)
          refine ⟨u, g1, fun K' hk => (congrArg (fun f => evFind key f _ 0) (funext fun r => ?_)).mp (g2 K' hk)⟩
          cases r <;> rfl
        | false =>
          refine det_and ?_
          have := h1 ‹_› 0
          refine fun K hK => ?_
          obtain ⟨u, g1, g2⟩ := this K (by
            refine (congrArg (fun f => evFind key f _ 0) (funext fun r => ?_)).mp hK
            cases r <;> rfl)
          refine ⟨u, g1, fun K' hk => (congrArg (fun f => evFind key f _ 0) (funext fun r => ?_)).mp (g2 K' hk)⟩
          cases r <;> rfl
      · exact det_false
    · exact det_false
  | _ => exact det_false

theorem det_build (t : TypeId) (parts : List (Nat × V)) : Det fun K => evBuild P t parts K := by
  unfold evBuild
  split
  · split
    · exact det_id _
    · exact det_false
  · exact det_false

theorem det_buildSlice (t : TypeId) (n : Nat) (parts : List (Nat × V)) : Det fun K => evBuildSlice P t n parts K := by
  unfold evBuildSlice
  split
  · split
    · refine det_and (det_and (det_and ?_))
      split
      · exact det_and (det_id _)
      · exact det_false
    · exact det_false
  · exact det_false

theorem det_len (t : TypeId) (x : V) : Det fun K => evLen P t x K := by
  unfold evLen
  split
  · exact det_and (det_id _)
  · exact det_and (det_id _)
  · exact det_and (det_id _)
  · exact det_false

theorem det_slice3 (t : TypeId) (x : V) (lo hi : Option V) (mx : V) : Det fun K => evSlice3 P t x lo hi mx K := by
  unfold evSlice3
  split
  · split
    · exact det_and (det_id _)
    · exact det_false
  · exact det_false

theorem det_slice (t : TypeId) (x : V) (lo hi : Option V) : Det fun K => evSlice P t x lo hi K := by
  unfold evSlice
  split
  · split
    · exact det_and (det_and (det_id _))
    · exact det_false
  · split
    · exact det_and (det_id _)
    · exact det_false
  · split
    · refine det_and ?_
      split
      · exact det_id _
      · exact det_id _
    · exact det_false
  · split
    · exact det_and (det_and (det_id _))
    · exact det_false
  · exact det_false

theorem det_convert (src dst : TypeId) (H : Heap) (x : V) : Det fun K => evConvert P src dst H x K := by
  unfold evConvert
  split
  · split
    · exact det_and (det_and fun K ⟨l, h1, h2⟩ => ⟨_, h2, fun K' hk => ⟨l, h1, hk⟩⟩)
    · exact det_false
  · exact det_id _
  · exact det_id _
  · exact det_and (det_and fun K ⟨l, h1, h2⟩ => ⟨_, h2, fun K' hk => ⟨l, h1, hk⟩⟩)
  · exact det_false

theorem det_builtin (b : Builtin) (hb : b = .len ∨ b = .min ∨ b = .max) (ts : List TypeId) (dst : Option Tmp) (as : List V) :
    ∃ R : (V → Prop) → Prop, Det R ∧ ∀ (σ : St) (K : V → Prop), R K ↔ evBuiltin P b ts dst as σ fun v τ => τ = σ ∧ K v := by
  rcases hb with rfl | rfl | rfl
  · match as, ts with
    | [x], [t] => exact ⟨fun K => evLen P t x K, det_len _ _, fun σ K => by simp [evBuiltin]⟩
    | [], _ => exact ⟨fun _ => False, det_false, fun σ K => by simp [evBuiltin]⟩
    | _ :: _ :: _, _ => exact ⟨fun _ => False, det_false, fun σ K => by simp [evBuiltin]⟩
    | [_], [] => exact ⟨fun _ => False, det_false, fun σ K => by simp [evBuiltin]⟩
    | [_], _ :: _ :: _ => exact ⟨fun _ => False, det_false, fun σ K => by simp [evBuiltin]⟩
  · by_cases h : ∃ k a k' b, as = [V.im (.int k a), V.im (.int k' b)]
    · obtain ⟨k, a, k', b, rfl⟩ := h
      exact ⟨fun K => k = k' ∧ K (.int k (if b < a then b else a)), det_and (det_id _), fun σ K => by simp [evBuiltin]⟩
    · refine ⟨fun _ => False, det_false, fun σ K => ⟨fun h => h.elim, fun hk => ?_⟩⟩
      unfold evBuiltin at hk
      split at hk <;> first | contradiction | exact h ⟨_, _, _, _, rfl⟩ | exact hk
  · by_cases h : ∃ k a k' b, as = [V.im (.int k a), V.im (.int k' b)]
    · obtain ⟨k, a, k', b, rfl⟩ := h
      exact ⟨fun K => k = k' ∧ K (.int k (if b > a then b else a)), det_and (det_id _), fun σ K => by simp [evBuiltin]⟩
    · refine ⟨fun _ => False, det_false, fun σ K => ⟨fun h => h.elim, fun hk => ?_⟩⟩
      unfold evBuiltin at hk
      split at hk <;> first | contradiction | exact h ⟨_, _, _, _, rfl⟩ | exact hk

/-! ### quiet operations -/
/-- Operations that leave all blocks as they are. -/
def quiet : Op → Bool
  | .binOp _ _ _ y _ => !isNilC y
  | .slice .. => true
  | .move _ | .assign _ | .load .. | .nilCheck _ | .unOp .. | .makeFunc .. | .fieldAddr .. | .field .. | .index .. | .indexAddr .. | .pick .. | .extract .. | .build .. | .buildSlice .. | .convert .. | .lookup .. => true
  | .call c => match c.callee with
    | .builtin .len | .builtin .min | .builtin .max => true
    | _ => false
  | _ => false

/-- append to a slice that has no spare places: a new one. -/
def evAppT (P : Program) (t t' : TypeId) (d : Nat) (x y : V) (K : V → Prop) : Prop :=
  match slOf P t with
  | some (el, s, bytes) => match x, y with
    | .dat es rows .tight, .dat es' ys _ =>
      notInt P t' = true ∧ 1 ≤ s ∧ ((zeroOf P el).map List.length) = some s ∧ (rows = [] ∨ es = s) ∧ (ys = [] ∨ es' = s) ∧ (∀ r ∈ ys, r.all V.solid = true) ∧
      (rows.length + ys.length) * bytes ≤ maxBytes ∧ rows.length + ys.length ≤ maxBytes ∧ K (.dat s (rows ++ ys) (.cls d))
    | _, _ => False
  | none => False

theorem evAppT_ex {t t' : TypeId} {d : Nat} {x y : V} {K : V → Prop} (h : evAppT P t t' d x y K) : ∃ u, K u ∧ ∀ K' : V → Prop, K' u → evAppT P t t' d x y K' := by
  unfold evAppT at h
  split at h
  · rename_i el s bytes hs
    split at h
    · rename_i es rows es' ys fl
      obtain ⟨h1, h2, h3, h4, h5, h6, h7, h8, h9⟩ := h
      refine ⟨_, h9, fun K' hk => ?_⟩
      unfold evAppT
      simp only [hs]
      exact ⟨h1, h2, h3, h4, h5, h6, h7, h8, hk⟩
    · exact h.elim
  · exact h.elim

theorem evAppT_app {t t' : TypeId} {d : Nat} {x y : V} {K : V → Prop} {σ : St} {k : V → St → Prop} (h : evAppT P t t' d x y K) (hk : ∀ v, K v → k v σ) : evAppend P t t' d x y σ k := by
  unfold evAppT at h
  unfold evAppend
  split at h
  · rename_i el s bytes hs
    simp only [hs]
    split at h
    · rename_i es rows es' ys fl
      obtain ⟨h1, h2, h3, h4, h5, h6, h7, h8, h9⟩ := h
      refine ⟨h1, h2, h3, h4, h5, h6, h7, h8, ?_⟩
      cases fl with
      | tight => exact hk _ h9
      | no => exact .inl (hk _ h9)
      | cls c => exact .inl (hk _ h9)
    · exact h.elim
  · exact h.elim

def evQ (P : Program) (G : Nat → Option (List V)) (o : Oper) (σ : St) (K : V → Prop) : Prop :=
  match o.op with
  | .call { callee := .value f, args, .. } => match σ.ev f with
    | .fn (.func g) a b => (∃ fn, P.funcs[g]? = some fn ∧ fn.body.isSome ∧ (fn.name == "runtime.NumGoroutine") = false) ∧
        ∃ u, (∀ X, (∀ k, heapCls X k = false) → StCall P G g ((a ++ (args.toList.map σ.ev) ++ b).map V.strip) (σ.H ++ X) (fun r H' => H' = σ.H ++ X ∧ r = u)) ∧ K u
    | _ => False
  | .call { callee := .builtin .append, args, argTypes } => match args.toList, argTypes.toList with
    | [x, y], [t, t'] => evAppT P t t' (o.dst.getD 0) (σ.ev x) (σ.ev y) K
    | _, _ => False
  | op => quiet op = true ∧ evOp P G o σ fun v τ => τ = σ ∧ K v

/-- Operations that look at no block. -/
def heapFree : Op → Bool
  | .binOp _ _ _ y _ => !isNilC y
  | .slice .. => true
  | .move _ | .assign _ | .unOp .. | .makeFunc .. | .fieldAddr .. | .field .. | .index .. | .indexAddr .. | .pick .. | .extract .. | .nilCheck _ | .build .. | .buildSlice .. => true
  | .call c => match c.callee with
    | .builtin .len | .builtin .min | .builtin .max | .builtin .append => true
    | _ => false
  | _ => false

/-- The same blocks, and maybe more behind. -/
def PreH (H H' : Heap) : Prop := ∃ X, (∀ k, heapCls X k = false) ∧ H' = H ++ X
theorem PreH.rfl' {H : Heap} : PreH H H := ⟨[], fun _ => rfl, by simp⟩
theorem PreH.get {H H' : Heap} (h : PreH H H') {id : Nat} {b : Option Blk} (hb : H[id]? = some b) : H'[id]? = some b := by
  obtain ⟨X, _, rfl⟩ := h
  rw [List.getElem?_append_left (List.getElem?_eq_some_iff.1 hb).1]; exact hb

theorem evLoad_pre {t : TypeId} {σ σ' : St} {K : V → Prop} {x : V} (hp : PreH σ.H σ'.H) (h : evLoad P t σ K x) : evLoad P t σ' K x := by
  cases x with
  | ptr id off =>
    simp only [evLoad] at h ⊢
    split at h
    · rename_i hH
      simp only [hp.get hH]
      exact h
    · exact h.elim
  | _ => exact h

theorem evConvert_pre {src dst : TypeId} {H H' : Heap} {K : V → Prop} {x : V} (hp : PreH H H') (h : evConvert P src dst H x K) : evConvert P src dst H' x K := by
  unfold evConvert at h ⊢
  split at h
  · rename_i h1 h2
    try simp only [h1, h2]
    split at h
    · rename_i hH
      simp only [hp.get hH] at h ⊢
      exact h
    · exact h.elim
  · rename_i h1 h2
    try simp only [h1, h2]
    exact h
  · rename_i h1 h2
    try simp only [h1]
    exact h
  · rename_i h1 h2
    try simp only [h1, h2]
    exact h
  · exact h.elim

theorem evLookup_pre {t : TypeId} {key : V} {ok : Bool} {σ σ' : St} {K : V → Prop} {x : V} (hp : PreH σ.H σ'.H) (h : evLookup P t key ok σ K x) : evLookup P t key ok σ' K x := by
  cases x with
  | mp id =>
    simp only [evLookup] at h ⊢
    split at h
    · rename_i hH hm
      simp only [hp.get hH, hm]
      exact h
    · exact h.elim
  | _ => exact h

/-- The same operands, the same blocks. -/
def Agree (o : Oper) (σ σ' : St) : Prop := (heapFree o.op = true ∨ PreH σ.H σ'.H) ∧ ∀ x ∈ o.op.operands, σ'.ev x = σ.ev x

theorem evQ_quiet {o : Oper} {σ : St} (hq : quiet o.op = true) (K : V → Prop) (h : evOp P G o σ fun v τ => τ = σ ∧ K v) :
    ∃ u, K u ∧ ∀ σ', Agree o σ σ' → ∀ K' : V → Prop, K' u → evOp P G o σ' fun v τ => τ = σ' ∧ K' v := by
  have one : ∀ (R : (V → Prop) → Prop), Det R → (evOp P G o σ (fun v τ => τ = σ ∧ K v) → R K) → (∀ σ', Agree o σ σ' → ∀ K' : V → Prop, R K' → evOp P G o σ' fun v τ => τ = σ' ∧ K' v) →
      ∃ u, K u ∧ ∀ σ', Agree o σ σ' → ∀ K' : V → Prop, K' u → evOp P G o σ' fun v τ => τ = σ' ∧ K' v := by
    intro R hR h1 h2
    obtain ⟨u, h3, h4⟩ := hR K (h1 h)
    exact ⟨u, h3, fun σ' ha K' hk => h2 σ' ha K' (h4 K' hk)⟩
  unfold evOp at *
  cases ho : o.op with
  | move x =>
    simp only [ho, true_and] at h one ⊢
    refine one (fun K => K (σ.ev x)) (det_id _) (fun h => h) fun σ' ha K' hk => ?_
    rw [ha.2 x (by simp [ho, Op.operands])]; exact hk
  | assign x =>
    simp only [ho, true_and] at h one ⊢
    refine one (fun K => K (σ.ev x)) (det_id _) (fun h => h) fun σ' ha K' hk => ?_
    rw [ha.2 x (by simp [ho, Op.operands])]; exact hk
  | load t x =>
    simp only [ho, true_and] at h one ⊢
    refine one (fun K => evLoad P t σ K (asRp G (σ.ev x))) (det_load t σ (asRp G (σ.ev x))) (fun h => h) fun σ' ha K' hk => ?_
    rw [ha.2 x (by simp [ho, Op.operands])]
    exact evLoad_pre (ha.1.resolve_left (by rw [ho]; simp [heapFree])) hk
  | nilCheck x =>
    simp only [ho, true_and] at h one ⊢
    refine one (fun K => match σ.ev x with | .ptr id off => K (.ptr id off) | .rp cs => K (.rp cs) | .fn (.func f) a b => K (.fn (.func f) a b) | .yld id => K (.yld id) | _ => False) ?_ (fun h => h) fun σ' ha K' hk => ?_
    · split
      · exact det_id _
      · exact det_id _
      · exact det_id _
      · exact det_id _
      · exact det_false
    · rw [ha.2 x (by simp [ho, Op.operands])]
      exact hk
  | binOp op t x y t' =>
    have hn : isNilC y = false := by
      rw [ho] at hq
      simpa [quiet] using hq
    simp only [ho, hn, true_and] at h one ⊢
    refine one (fun K => evBin P op t (σ.ev x) (σ.ev y) K) (det_bin op t (σ.ev x) (σ.ev y)) (fun h => h) fun σ' ha K' hk => ?_
    rw [ha.2 x (by simp [ho, Op.operands]), ha.2 y (by simp [ho, Op.operands])]
    exact hk
  | unOp op t x =>
    simp only [ho, true_and] at h one ⊢
    refine one (fun K => evUn op (σ.ev x) K) (det_un op (σ.ev x)) (fun h => h) fun σ' ha K' hk => ?_
    rw [ha.2 x (by simp [ho, Op.operands])]
    exact hk
  | convert src dst x =>
    simp only [ho, true_and] at h one ⊢
    refine one (fun K => evConvert P src dst σ.H (σ.ev x) K) (det_convert src dst σ.H (σ.ev x)) (fun h => h) fun σ' ha K' hk => ?_
    rw [ha.2 x (by simp [ho, Op.operands])]
    exact evConvert_pre (ha.1.resolve_left (by rw [ho]; simp [heapFree])) hk
  | slice t x lo hi mx =>
    cases mx with
    | some r =>
      simp only [ho, true_and] at h one ⊢
      refine one (fun K => evSlice3 P t (asRp G (σ.ev x)) (lo.map σ.ev) (hi.map σ.ev) (σ.ev r) K) (det_slice3 t _ _ _ _) (fun h => h) fun σ' ha K' hk => ?_
      have h1 : lo.map σ'.ev = lo.map σ.ev := by
        cases lo with
        | none => rfl
        | some p => simp only [Option.map_some]; rw [ha.2 p (by simp [ho, Op.operands])]
      have h2 : hi.map σ'.ev = hi.map σ.ev := by
        cases hi with
        | none => rfl
        | some p => simp only [Option.map_some]; rw [ha.2 p (by simp [ho, Op.operands])]
      rw [ha.2 x (by simp [ho, Op.operands]), ha.2 r (by simp [ho, Op.operands]), h1, h2]
      exact hk
    | none =>
      simp only [ho, true_and] at h one ⊢
      refine one (fun K => evSlice P t (asRp G (σ.ev x)) (lo.map σ.ev) (hi.map σ.ev) K) (det_slice t _ _ _) (fun h => h) fun σ' ha K' hk => ?_
      have h1 : lo.map σ'.ev = lo.map σ.ev := by
        cases lo with
        | none => rfl
        | some p => simp only [Option.map_some]; rw [ha.2 p (by simp [ho, Op.operands])]
      have h2 : hi.map σ'.ev = hi.map σ.ev := by
        cases hi with
        | none => rfl
        | some p => simp only [Option.map_some]; rw [ha.2 p (by simp [ho, Op.operands])]
      rw [ha.2 x (by simp [ho, Op.operands]), h1, h2]
      exact hk
  | makeFunc fn a b =>
    simp only [ho, true_and] at h one ⊢
    refine one (fun K => K (V.fn fn (a.toList.map σ.ev) (b.toList.map σ.ev))) (det_id _) (fun h => h) fun σ' ha K' hk => ?_
    rw [List.map_congr_left (fun x hx => ha.2 x (by simp only [ho, Op.operands]; exact Array.mem_append_left _ (Array.mem_toList_iff.1 hx))),
      List.map_congr_left (fun x hx => ha.2 x (by simp only [ho, Op.operands]; exact Array.mem_append_right _ (Array.mem_toList_iff.1 hx)))]
    exact hk
  | fieldAddr t x f =>
    simp only [ho, true_and] at h one ⊢
    refine one (fun K => evFieldAddr P t f K (asRp G (σ.ev x))) (det_fieldAddr t f (asRp G (σ.ev x))) (fun h => h) fun σ' ha K' hk => ?_
    rw [ha.2 x (by simp [ho, Op.operands])]
    exact hk
  | field t x f =>
    simp only [ho, true_and] at h one ⊢
    refine one (fun K => evField P t f K (σ.ev x)) (det_field t f (σ.ev x)) (fun h => h) fun σ' ha K' hk => ?_
    rw [ha.2 x (by simp [ho, Op.operands])]
    exact hk
  | index t x i =>
    simp only [ho, true_and] at h one ⊢
    refine one (fun K => evIndex P t (σ.ev x) (σ.ev i) K) (det_index t (σ.ev x) (σ.ev i)) (fun h => h) fun σ' ha K' hk => ?_
    rw [ha.2 x (by simp [ho, Op.operands]), ha.2 i (by simp [ho, Op.operands])]
    exact hk
  | indexAddr t x i =>
    simp only [ho, true_and] at h one ⊢
    refine one (fun K => evIndexAddr P t (asRp G (σ.ev x)) (σ.ev i) K) (det_indexAddr t (asRp G (σ.ev x)) (σ.ev i)) (fun h => h) fun σ' ha K' hk => ?_
    rw [ha.2 x (by simp [ho, Op.operands]), ha.2 i (by simp [ho, Op.operands])]
    exact hk
  | lookup t x i ok =>
    simp only [ho, true_and] at h one ⊢
    refine one (fun K => evLookup P t (σ.ev i) ok σ K (σ.ev x)) (det_lookup t (σ.ev i) ok σ (σ.ev x)) (fun h => h) fun σ' ha K' hk => ?_
    rw [ha.2 x (by simp [ho, Op.operands]), ha.2 i (by simp [ho, Op.operands])]
    exact evLookup_pre (ha.1.resolve_left (by rw [ho]; simp [heapFree])) hk
  | pick c x y =>
    simp only [ho, true_and] at h one ⊢
    refine one (fun K => match σ.ev c with | .im (.bool t) => (t = true → K (σ.ev x)) ∧ (t = false → K (σ.ev y)) | _ => False) ?_ (fun h => h) fun σ' ha K' hk => ?_
    · split
      · exact det_ite _ _ _
      · exact det_false
    · rw [ha.2 c (by simp [ho, Op.operands]), ha.2 x (by simp [ho, Op.operands]), ha.2 y (by simp [ho, Op.operands])]
      exact hk
  | extract x i =>
    simp only [ho, true_and] at h one ⊢
    refine one (fun K => match σ.ev x with | .tup vs => (match vs[i]? with | some v => K v.strip | none => False) | _ => False) ?_ (fun h => h) fun σ' ha K' hk => ?_
    · split
      · split
        · exact det_id _
        · exact det_false
      · exact det_false
    · rw [ha.2 x (by simp [ho, Op.operands])]
      exact hk
  | build t parts =>
    simp only [ho, true_and] at h one ⊢
    refine one (fun K => evBuild P t (parts.toList.map fun (i, x) => (i, σ.ev x)) K) (det_build t _) (fun h => h) fun σ' ha K' hk => ?_
    rw [List.map_congr_left (g := fun (i, x) => (i, σ.ev x)) (fun p hp => by
      rw [ha.2 p.2 (by
        simp only [ho, Op.operands]
        exact List.mem_toArray.2 (List.mem_map.2 ⟨p, hp, rfl⟩))])]
    exact hk
  | buildSlice t n parts =>
    simp only [ho, true_and] at h one ⊢
    refine one (fun K => evBuildSlice P t n (parts.toList.map fun (i, x) => (i, σ.ev x)) K) (det_buildSlice t n _) (fun h => h) fun σ' ha K' hk => ?_
    rw [List.map_congr_left (g := fun (i, x) => (i, σ.ev x)) (fun p hp => by
      rw [ha.2 p.2 (by
        simp only [ho, Op.operands]
        exact List.mem_toArray.2 (List.mem_map.2 ⟨p, hp, rfl⟩))])]
    exact hk
  | call c =>
    obtain ⟨callee, args, ts⟩ := c
    have hmap : ∀ σ', Agree o σ σ' → args.toList.map σ'.ev = args.toList.map σ.ev := fun σ' ha => List.map_congr_left fun x hx => ha.2 x (by
      simp only [ho, Op.operands, Call.operands]
      cases callee <;> simp [Array.mem_toList_iff.1 hx])
    rw [ho] at hq
    cases callee with
    | builtin b =>
      simp only [ho] at h one ⊢
      have hb : b = .len ∨ b = .min ∨ b = .max := by
        cases b <;> simp [quiet] at hq <;> simp
      obtain ⟨R, hR, hiff⟩ := det_builtin (P := P) b hb ts.toList o.dst (args.toList.map σ.ev)
      refine one R hR ((hiff σ K).2) fun σ' ha K' hk => ?_
      rw [hmap σ' ha]
      exact (hiff σ' K').1 hk
    | _ => simp [quiet] at hq
  | _ => rw [ho] at hq; simp [quiet] at hq

end Go.Abs

/-! Sound13 -/
/- Regions that draw their order: the walk. -/
namespace Go.Abs
open Go.RowKit

variable {P : Program} {G : Nat → Option (List V)}

theorem OpWp.mono {ro : Option Nat} {o : Oper} {σ : St} {a : Act} {w : World} {e : Env} {k k' : V → St → Prop} (h : OpWp P G ro o σ a w e k) (hm : ∀ v τ, k v τ → k' v τ) : OpWp P G ro o σ a w e k' :=
  fun next Q hn => h next Q fun u w' v σ' e' hk => hn u w' v σ' e' (hm _ _ hk)

/-- Is it a call of a function? -/
def isVCall (o : Oper) : Bool := match o.op with
  | .call c => match c.callee with
    | .value _ => true
    | _ => false
  | _ => false

/-- The classes of which a region that draws its order lets nobody know: those that a call may use up. -/
def dq (all : List Oper) (H : Heap) : Nat → Bool := match all.any isVCall with
  | true => heapCls H
  | false => fun _ => false

theorem dq_call {all : List Oper} {H : Heap} {o : Oper} (h : o ∈ all) (hc : isVCall o = true) : dq all H = heapCls H := by
  unfold dq
  rw [List.any_eq_true.2 ⟨o, h, hc⟩]

theorem evQ_ex {o : Oper} {σ : St} {K : V → Prop} (h : evQ P G o σ K) :
    ∃ u, K u ∧ ∀ σ', Agree o σ σ' → ∀ ro a w e, RSt G σ' a w e → OpWp P G ro o σ' a w e fun v τ => (τ = σ' ∨ (isVCall o = true ∧ τ = σ'.afterCall σ'.H)) ∧ v = u := by
  unfold evQ at h
  split at h
  · rename_i f args ts ho
    split at h
    · rename_i g a b hf
      obtain ⟨hfn, u, hcall, hK⟩ := h
      refine ⟨u, hK, fun σ' ha ro act w e hst => evOp_sound hst ?_⟩
      have hev : σ'.ev f = .fn (.func g) a b := by rw [ha.2 f (by simp [ho, Op.operands, Call.operands]), hf]
      have hargs : args.toList.map σ'.ev = args.toList.map σ.ev := List.map_congr_left fun x hx => ha.2 x (by simp [ho, Op.operands, Call.operands, Array.mem_toList_iff.1 hx])
      simp only [evOp, ho, hev]
      refine ⟨hfn, ?_⟩
      obtain ⟨X, hX, hH⟩ := ha.1.resolve_left (by rw [ho]; simp [heapFree])
      rw [hargs, hH]
      exact (hcall X hX).mono fun r H' ⟨h1, h2⟩ => ⟨.inr ⟨by unfold isVCall; rw [ho], by rw [h1]⟩, h2⟩
    · exact h.elim
  · rename_i args ts ho
    split at h
    · rename_i x y t t' ha ht
      obtain ⟨u, hK, hu⟩ := evAppT_ex h
      refine ⟨u, hK, fun σ' hag ro act w e hst => evOp_sound hst ?_⟩
      have hx : σ'.ev x = σ.ev x := hag.2 x (by simp [ho, Op.operands, Call.operands, ← Array.mem_toList_iff, ha])
      have hy : σ'.ev y = σ.ev y := hag.2 y (by simp [ho, Op.operands, Call.operands, ← Array.mem_toList_iff, ha])
      simp only [evOp, ho, ha, ht, List.map_cons, List.map_nil, evBuiltin, hx, hy]
      exact evAppT_app (hu (· = u) rfl) fun v hv => ⟨.inl rfl, hv⟩
    · exact h.elim
  · obtain ⟨hq, h⟩ := h
    obtain ⟨u, h1, h2⟩ := evQ_quiet hq K h
    refine ⟨u, h1, fun σ' ha ro a w e hst => (evOp_sound hst (h2 σ' ha (· = u) rfl)).mono fun v τ ⟨h3, h4⟩ => ⟨.inl h3, h4⟩⟩

/-! ### guards -/
def Want (all : List Oper) (o : Oper) (σ : St) (b : Bool) : Prop :=
  match o.guard with
  | none => b = true
  | some (j, want) => (∃ c, yieldedV all σ j = some (.im (.bool c)) ∧ b = (c == want)) ∨ (yieldedV all σ j = some (.tup []) ∧ b = false)

theorem want_run {all : List Oper} {o : Oper} {σ : St} {b : Bool} {a : Act} {w : World} {e : Env} (h : RSt G σ a w e) (hw : Want all o σ b) : Region.wanted o (yielded all.toArray a.tmps) = b := by
  unfold Want at hw
  split at hw
  · rename_i hg
    rw [wanted_none hg, hw]
  · rename_i j want hg
    have hw' : Region.wanted o (yielded all.toArray a.tmps) = (yielded all.toArray a.tmps j == some want) := by simp [Region.wanted, hg]
    have hy : ∀ v, yieldedV all σ j = some v → ∃ u, ((all.toArray[j]?).bind (·.dst)).bind (a.tmps[·]?) = some u ∧ Rep w e v u := by
      intro v hv
      unfold yieldedV at hv
      simp only [List.getElem?_toArray]
      split at hv
      · rename_i d hdst
        rw [hdst]
        have hlt : d < σ.tmps.length := (List.getElem?_eq_some_iff.1 hv).1
        have hlt' : d < a.tmps.size := Nat.lt_of_lt_of_eq hlt (h.tmps.1.trans Array.length_toList)
        exact ⟨a.tmps[d], by simp [hlt'], (h.tmps.2 d v _ hv (by simp [hlt'])).1⟩
      · cases hv
    rw [hw']
    rcases hw with ⟨c, hv, rfl⟩ | ⟨hv, rfl⟩
    · obtain ⟨u, hu, hr⟩ := hy _ hv
      have hub : u = .bool c := by cases hr; rfl
      have : yielded all.toArray a.tmps j = some c := by unfold yielded; rw [hu, hub]
      rw [this]
      rfl
    · obtain ⟨u, hu, hr⟩ := hy _ hv
      have : yielded all.toArray a.tmps j = none := by
        unfold yielded
        rw [hu]
        cases hr
        rfl
      rw [this]
      rfl

/-- One operation that is not the first: its step. -/
theorem evOps_step {ro : Option Nat} {all rest : List Oper} {o : Oper} {i : Nat} {σ : St} {a : Act} {w : World} {e : Env} {k : St → Prop} {Q : Exit → Act → World → Prop} {next : Act → World → Prop} (ho : all[i]? = some o)
    (h : RSt G σ a w e) (hk : evOps P G all (o :: rest) σ k)
    (hn : ∀ σ' a' w' e', evOps P G all rest σ' k → σ'.cur = σ.cur → RSt G σ' a' w' e' → Ext σ.H w e σ'.H w' e' → next a' w') : wpOpIn (FW ro) 0 P all.toArray Q i next a w := by
  unfold wpOpIn
  simp only [List.getElem?_toArray, ho]
  have run : evOp P G o σ (fun v σ' => evOps P G all rest (σ'.put o.dst v) k) → o.wpIn (FW ro) 0 P a w next Q := by
    intro hk
    refine evOp_sound h hk _ _ fun u w' v σ' e' hk hc hst hv hx => ?_
    exact hn (σ'.put o.dst v) _ _ e' hk ((put_cur _ _ _).trans hc) (hst.put o.dst hv) (by rwa [put_H])
  have skip : evOps P G all rest (σ.put o.dst (.tup [])) k → (∀ f, o.about P w a.eval = some f → (FW ro).fn f) ∧ next (a.put o.dst undef) w := by
    intro hk
    refine ⟨fun _ _ => trivial, ?_⟩
    exact hn (σ.put o.dst (.tup [])) _ _ e hk (put_cur _ _ _) (h.put o.dst ⟨.tup [] #[] rfl (fun i v u h => by simp at h), trivial⟩) (by rw [put_H]; exact .refl _ _ _)
  simp only [evOps] at hk
  split at hk
  · rename_i hg
    rw [if_pos (wanted_none hg _)]
    exact run hk
  · rename_i j want hg
    split at hk
    · rename_i b hv
      have := want_run (b := b == want) h (by unfold Want; rw [hg]; exact .inl ⟨b, hv, rfl⟩)
      rw [this]
      by_cases hb : b = want
      · rw [if_pos (by simp [hb])]
        exact run (hk.1 hb)
      · rw [if_neg (by simp [hb])]
        exact skip (hk.2 hb)
    · rename_i hv
      have := want_run (b := false) h (by unfold Want; rw [hg]; exact .inr ⟨hv, rfl⟩)
      rw [this, if_neg (by simp)]
      exact skip hk
    · exact hk.elim

/-! ### quiet operations, in the order of the text -/
def evQs (P : Program) (G : Nat → Option (List V)) (all : List Oper) : List Oper → St → (St → Prop) → Prop
  | [], σ, k => k σ
  | o :: rest, σ, k =>
    match o.guard with
    | none => evQ P G o σ fun v => evQs P G all rest (σ.put o.dst (V.demote (dq all σ.H) v)) k
    | some (j, want) => match yieldedV all σ j with
      | some (.im (.bool b)) => (b = want → evQ P G o σ fun v => evQs P G all rest (σ.put o.dst (V.demote (dq all σ.H) v)) k) ∧
          (b ≠ want → evQs P G all rest (σ.put o.dst (.tup [])) k)
      | some (.tup []) => evQs P G all rest (σ.put o.dst (.tup [])) k
      | _ => False

/-- An operation's value, whatever else has been worked out. -/
def QC (P : Program) (G : Nat → Option (List V)) (all : List Oper) (o : Oper) (σ : St) (u : V) : Prop :=
  V.demote (dq all σ.H) u = u ∧
  ((Want all o σ true ∧ ∃ v, u = V.demote (dq all σ.H) v ∧ ∀ σ', Agree o σ σ' → ∀ ro a w e, RSt G σ' a w e → OpWp P G ro o σ' a w e fun v' τ => (τ = σ' ∨ (isVCall o = true ∧ τ = σ'.afterCall σ'.H)) ∧ v' = v) ∨
  (Want all o σ false ∧ u = .tup []))

theorem demote_demote (p : Nat → Bool) (v : V) : V.demote p (V.demote p v) = V.demote p v := by
  cases v with
  | dat es rows fl => cases fl with
    | cls c => by_cases h : p c = true <;> simp [V.demote, h]
    | _ => rfl
  | _ => rfl

theorem evQs_ex {all rest : List Oper} {o : Oper} {σ : St} {k : St → Prop} (h : evQs P G all (o :: rest) σ k) : ∃ u, QC P G all o σ u ∧ evQs P G all rest (σ.put o.dst u) k := by
  simp only [evQs] at h
  split at h
  · rename_i hg
    obtain ⟨u, h1, h2⟩ := evQ_ex h
    exact ⟨_, ⟨demote_demote _ _, .inl ⟨by unfold Want; rw [hg], u, rfl, h2⟩⟩, h1⟩
  · rename_i j want hg
    split at h
    · rename_i b hv
      by_cases hb : b = want
      · obtain ⟨u, h1, h2⟩ := evQ_ex (h.1 hb)
        exact ⟨_, ⟨demote_demote _ _, .inl ⟨by unfold Want; rw [hg]; exact .inl ⟨b, hv, by simp [hb]⟩, u, rfl, h2⟩⟩, h1⟩
      · exact ⟨_, ⟨rfl, .inr ⟨by unfold Want; rw [hg]; exact .inl ⟨b, hv, by simp [hb]⟩, rfl⟩⟩, h.2 hb⟩
    · rename_i hv
      exact ⟨_, ⟨rfl, .inr ⟨by unfold Want; rw [hg]; exact .inr ⟨hv, rfl⟩, rfl⟩⟩, h⟩
    · exact h.elim

/-- The same in all that the operation looks at. -/
def AgreeL (all : List Oper) (o : Oper) (σ σ' : St) : Prop := (heapFree o.op = true ∨ PreH σ.H σ'.H) ∧ ∀ t ∈ o.looksAt all.toArray, σ'.tmps[t]? = σ.tmps[t]?

theorem AgreeL.agree {all : List Oper} {o : Oper} {σ σ' : St} (h : AgreeL all o σ σ') : Agree o σ σ' := by
  refine ⟨h.1, fun x hx => ?_⟩
  cases x with
  | tmp t =>
    have := h.2 t (by
      unfold Oper.looksAt
      exact List.mem_append_left _ (List.mem_filterMap.2 ⟨.tmp t, by simpa using hx, rfl⟩))
    simp only [St.ev, List.getD_eq_getElem?_getD, this]
  | _ => rfl

theorem AgreeL.want {all : List Oper} {o : Oper} {σ σ' : St} {b : Bool} (h : AgreeL all o σ σ') (hw : Want all o σ b) : Want all o σ' b := by
  unfold Want at *
  split
  · rename_i hg; rw [hg] at hw; exact hw
  · rename_i j want hg
    rw [hg] at hw
    have : yieldedV all σ' j = yieldedV all σ j := by
      unfold yieldedV
      split
      · rename_i d hd
        exact h.2 d (by
          unfold Oper.looksAt
          refine List.mem_append_right _ ?_
          rw [hg]
          simp [hd])
      · rfl
    rw [this]
    exact hw

theorem qc_run {ro : Option Nat} {all : List Oper} {o : Oper} {i : Nat} {σ σ' : St} {u : V} {a : Act} {w : World} {e : Env} {Q : Exit → Act → World → Prop} {next : Act → World → Prop} (ho : all[i]? = some o)
    (hq : QC P G all o σ u) (ha : AgreeL all o σ σ') (h : RSt G σ' a w e) (hd : σ'.tmps.map (V.demote (dq all σ'.H)) = σ'.tmps)
    (hn : ∀ a' w' e', RSt G (σ'.put o.dst u) a' w' e' → Ext σ'.H w e σ'.H w' e' → next a' w') : wpOpIn (FW ro) 0 P all.toArray Q i next a w := by
  unfold wpOpIn
  simp only [List.getElem?_toArray, ho]
  rcases hq.2 with ⟨hw, v, hu, hop⟩ | ⟨hw, rfl⟩
  · rw [want_run h (ha.want hw), if_pos rfl]
    refine hop σ' ha.agree ro a w e h _ _ fun x w' v' τ e' hk hc hst hv hx => ?_
    obtain ⟨hτ, rfl⟩ := hk
    have hτ' : τ = σ' := by
      rcases hτ with rfl | ⟨hvc, rfl⟩
      · rfl
      · unfold St.afterCall
        rw [dq_call (List.mem_of_getElem? ho) hvc] at hd
        rw [hd]
    subst hτ'
    refine hn _ _ e' ?_ hx
    rw [hu]
    exact hst.put o.dst (hv.demote _)
  · rw [want_run h (ha.want hw), if_neg (by simp)]
    exact ⟨fun _ _ => trivial, hn _ _ e (h.put o.dst ⟨.tup [] #[] rfl (fun i v u h => by simp at h), trivial⟩) (.refl _ _ _)⟩

end Go.Abs

/-! Sound14 -/
/- Regions that draw their order: every order. -/
namespace Go.Abs
open Go.RowKit

variable {P : Program} {G : Nat → Option (List V)}

/-- The operations that an operation waits for. -/
def Bnd (o : Oper) : List Nat := (o.after.toList.filter (Region.binds .any)).map (·.on)

/-- Bit by bit: what an operation waits for, through others too. -/
def maskOf (ms : List Nat) (es : List Nat) : Nat := es.foldl (fun m e => m ||| (2 ^ e ||| ms.getD e 0)) 0
def masksG : List (List Nat) → List Nat → List Nat
  | [], ms => ms
  | b :: bs, ms => masksG bs (ms ++ [maskOf ms b])

theorem maskOf_bit (ms : List Nat) (es : List Nat) (j : Nat) (h : (maskOf ms es).testBit j = true) : ∃ e ∈ es, j = e ∨ (ms.getD e 0).testBit j = true := by
  have gen : ∀ (es : List Nat) (m : Nat), (es.foldl (fun m e => m ||| (2 ^ e ||| ms.getD e 0)) m).testBit j = true → m.testBit j = true ∨ ∃ e ∈ es, j = e ∨ (ms.getD e 0).testBit j = true := by
    intro es
    induction es with
    | nil => intro m h; exact .inl h
    | cons e es ih =>
      intro m h
      rcases ih _ h with h1 | ⟨e', he', h1⟩
      · rw [Nat.testBit_or, Nat.testBit_or, Nat.testBit_two_pow] at h1
        simp only [Bool.or_eq_true, decide_eq_true_eq] at h1
        rcases h1 with h1 | h1 | h1
        · exact .inl h1
        · exact .inr ⟨e, by simp, .inl h1.symm⟩
        · exact .inr ⟨e, by simp, .inr h1⟩
      · exact .inr ⟨e', by simp [he'], h1⟩
  rcases gen es 0 h with h1 | h1
  · simp at h1
  · exact h1

theorem masksG_spec (bs : List (List Nat)) : ∀ (ms : List Nat) (i j : Nat), ((masksG bs ms).getD i 0).testBit j = true →
    (i < ms.length ∧ (ms.getD i 0).testBit j = true) ∨
    ∃ b, ms.length ≤ i ∧ bs[i - ms.length]? = some b ∧ ∃ e ∈ b, j = e ∨ (((masksG bs ms).getD e 0).testBit j = true ∧ e < i) := by
  induction bs with
  | nil =>
    intro ms i j h
    refine .inl ⟨?_, h⟩
    rcases Nat.lt_or_ge i ms.length with h1 | h1
    · exact h1
    · have : masksG [] ms = ms := rfl
      rw [this, List.getD_eq_getElem?_getD, List.getElem?_eq_none h1] at h
      simp at h
  | cons b bs ih =>
    intro ms i j h
    have hpre : ∀ (bs : List (List Nat)) (ms : List Nat) (e : Nat), e < ms.length → (masksG bs ms).getD e 0 = ms.getD e 0 := by
      intro bs
      induction bs with
      | nil => intro ms e _; rfl
      | cons b bs ih =>
        intro ms e he
        show (masksG bs (ms ++ [maskOf ms b])).getD e 0 = _
        rw [ih _ e (by simp; omega)]
        simp [List.getD_eq_getElem?_getD, List.getElem?_append_left he]
    have hm : masksG (b :: bs) ms = masksG bs (ms ++ [maskOf ms b]) := rfl
    rw [hm] at h ⊢
    rcases ih _ i j h with ⟨h1, h2⟩ | ⟨b', h1, h2, e, he, h3⟩
    · by_cases hi : i < ms.length
      · refine .inl ⟨hi, ?_⟩
        rw [List.getD_eq_getElem?_getD, List.getElem?_append_left hi] at h2
        rw [List.getD_eq_getElem?_getD]
        exact h2
      · have hie : i = ms.length := by simp at h1; omega
        subst hie
        rw [List.getD_eq_getElem?_getD, List.getElem?_append_right (Nat.le_refl _)] at h2
        simp at h2
        obtain ⟨e, he, h3⟩ := maskOf_bit ms b j h2
        refine .inr ⟨b, Nat.le_refl _, by simp, e, he, ?_⟩
        rcases h3 with h3 | h3
        · exact .inl h3
        · have hlt : e < ms.length := by
            rcases Nat.lt_or_ge e ms.length with h4 | h4
            · exact h4
            · rw [List.getD_eq_getElem?_getD, List.getElem?_eq_none h4] at h3
              simp at h3
          refine .inr ⟨?_, hlt⟩
          rw [hpre bs _ e (by simp; omega)]
          rw [List.getD_eq_getElem?_getD, List.getElem?_append_left hlt, ← List.getD_eq_getElem?_getD]
          exact h3
    · simp only [List.length_append, List.length_cons, List.length_nil] at h1 h2
      refine .inr ⟨b', by omega, ?_, e, he, h3⟩
      rw [show i - ms.length = (i - (ms.length + (0 + 1))) + 1 by omega]
      simpa using h2

def dstIs (d : Option Tmp) (t : Tmp) : Bool := match d with | some x => Nat.beq x t | none => false

/-- May the first q operations be carried out in any order, and the others, one by one, behind them? -/
def drawOk (ops : List Oper) (q : Nat) : Bool :=
  let ms := masksG (ops.map Bnd) []
  let ds := (ops.map (·.dst)).zipIdx
  ops.zipIdx.all fun (o, i) =>
    (Bnd o).all (fun e => Nat.blt e i) &&
    (if i < q then
      (match o.dst with | none => true | some t => ds.all fun (d, j) => Nat.beq j i || !dstIs d t) &&
      (o.looksAt ops.toArray).all fun t => ds.all fun (d, j) => !dstIs d t || (if j < i then (ms.getD i 0).testBit j else Nat.beq j i || (ms.getD j 0).testBit i)
     else (List.range i).all fun j => (ms.getD i 0).testBit j)

structure DrawOk (ops : List Oper) (q : Nat) : Prop where
  up : ∀ i o, ops[i]? = some o → ∀ e ∈ Bnd o, e < i
  one : ∀ i o t, i < q → ops[i]? = some o → o.dst = some t → ∀ j o', j ≠ i → ops[j]? = some o' → o'.dst ≠ some t
  look : ∀ i o t, i < q → ops[i]? = some o → t ∈ o.looksAt ops.toArray → ∀ j o', ops[j]? = some o' → o'.dst = some t →
    (j < i ∧ ((masksG (ops.map Bnd) []).getD i 0).testBit j = true) ∨ j = i ∨ (i < j ∧ ((masksG (ops.map Bnd) []).getD j 0).testBit i = true)
  tail : ∀ i o j, q ≤ i → ops[i]? = some o → j < i → ((masksG (ops.map Bnd) []).getD i 0).testBit j = true

theorem mem_zipIdx' {α : Type} {l : List α} {i : Nat} {x : α} (h : l[i]? = some x) : (x, i) ∈ l.zipIdx := by
  rw [List.mem_zipIdx_iff_getElem?]
  exact h

theorem drawOk_spec {ops : List Oper} {q : Nat} (h : drawOk ops q = true) : DrawOk ops q := by
  unfold drawOk at h
  simp only [List.all_eq_true] at h
  have hi : ∀ i o, ops[i]? = some o → _ := fun i o ho => h (o, i) (mem_zipIdx' ho)
  have hds : ∀ j o', ops[j]? = some o' → (o'.dst, j) ∈ (ops.map (·.dst)).zipIdx := fun j o' hj => mem_zipIdx' (by rw [List.getElem?_map, hj]; rfl)
  refine ⟨fun i o ho e he => ?_, fun i o t hq ho hd j o' hne hj hd' => ?_, fun i o t hq ho ht j o' hj hd => ?_, fun i o j hq ho hj => ?_⟩
  · have := hi i o ho
    simp only [Bool.and_eq_true, List.all_eq_true] at this
    exact Nat.blt_eq.mp (this.1 e he)
  · have := hi i o ho
    simp only [Bool.and_eq_true, if_pos hq, hd, List.all_eq_true] at this
    have h1 := this.2.1 _ (hds j o' hj)
    simp only [hd', dstIs, Bool.or_eq_true, Bool.not_eq_true'] at h1
    rcases h1 with h1 | h1
    · exact hne (Nat.eq_of_beq_eq_true h1)
    · rw [Nat.beq_refl] at h1; cases h1
  · have := hi i o ho
    simp only [Bool.and_eq_true, if_pos hq, List.all_eq_true] at this
    have h1 := this.2.2 t ht _ (hds j o' hj)
    simp only [hd, dstIs, Nat.beq_refl, Bool.not_true, Bool.false_or] at h1
    by_cases hji : j < i
    · rw [if_pos hji] at h1
      exact .inl ⟨hji, h1⟩
    · rw [if_neg hji] at h1
      simp only [Bool.or_eq_true] at h1
      rcases h1 with h1 | h1
      · exact .inr (.inl (Nat.eq_of_beq_eq_true h1))
      · by_cases he : j = i
        · exact .inr (.inl he)
        · exact .inr (.inr ⟨by omega, h1⟩)
  · have := hi i o ho
    simp only [Bool.and_eq_true, if_neg (Nat.not_lt.2 hq), List.all_eq_true] at this
    exact this.2 j (List.mem_range.2 hj)

/-- What has been carried out: with each operation what it waits for. -/
def Closed (ops : List Oper) (L : Nat → Bool) : Prop := ∀ i o, ops[i]? = some o → L i = true → ∀ e ∈ Bnd o, L e = true

theorem closed_mask {ops : List Oper} {L : Nat → Bool} (_hup : ∀ i o, ops[i]? = some o → ∀ e ∈ Bnd o, e < i) (hc : Closed ops L) : ∀ (i : Nat) (o : Oper), ops[i]? = some o → (∀ e ∈ Bnd o, L e = true) →
    ∀ j, ((masksG (ops.map Bnd) []).getD i 0).testBit j = true → L j = true := by
  intro i
  induction i using Nat.strongRecOn with
  | _ i ih =>
    intro o ho hall j hj
    rcases masksG_spec (ops.map Bnd) [] i j hj with ⟨h1, _⟩ | ⟨b, _, hb, e, he, h3⟩
    · simp at h1
    · simp only [List.length_nil, Nat.sub_zero, List.getElem?_map, ho, Option.map_some, Option.some.injEq] at hb
      subst hb
      rcases h3 with rfl | ⟨h3, h4⟩
      · exact hall _ he
      · have hlt : e < ops.length := by have := (List.getElem?_eq_some_iff.1 ho).1; omega
        exact ih e h4 ops[e] (List.getElem?_eq_getElem hlt) (fun e' he' => hc e _ (List.getElem?_eq_getElem hlt) (hall e he) e' he') j h3

/-! ### states on the way -/
/-- Whose temporary is it? -/
def own (ops : List Oper) (q : Nat) (t : Nat) : Option Nat := (List.range q).find? fun j => match ops[j]? with | some o => dstIs o.dst t | none => false

theorem own_of {ops : List Oper} {q : Nat} (hok : DrawOk ops q) {i : Nat} {o : Oper} {t : Nat} (hi : i < q) (ho : ops[i]? = some o) (hd : o.dst = some t) : own ops q t = some i := by
  unfold own
  have hsome : ((List.range q).find? fun j => match ops[j]? with | some o => dstIs o.dst t | none => false).isSome := by
    rw [List.find?_isSome]
    exact ⟨i, List.mem_range.2 hi, by simp [ho, hd, dstIs]⟩
  obtain ⟨j, hj⟩ := Option.isSome_iff_exists.1 hsome
  rw [hj]
  have h1 := List.find?_some hj
  split at h1
  · rename_i o' ho'
    unfold dstIs at h1
    split at h1
    · rename_i x hx
      have := Nat.eq_of_beq_eq_true h1
      subst this
      by_cases hji : j = i
      · rw [hji]
      · exact absurd hx (hok.one i o x hi ho hd j o' hji ho')
    · cases h1
  · cases h1

theorem own_some {ops : List Oper} {q t j : Nat} (h : own ops q t = some j) : j < q ∧ ∃ o, ops[j]? = some o ∧ o.dst = some t := by
  unfold own at h
  have h1 := List.find?_some h
  have h2 := List.mem_of_find?_eq_some h
  refine ⟨List.mem_range.1 h2, ?_⟩
  split at h1
  · rename_i o ho
    refine ⟨o, ho, ?_⟩
    unfold dstIs at h1
    split at h1
    · rename_i x hx
      rw [hx, Nat.eq_of_beq_eq_true h1]
    · cases h1
  · cases h1

/-- The state when the operations of L have been carried out. -/
def stL (ops : List Oper) (q : Nat) (vals : Nat → V) (σ : St) (L : Nat → Bool) : St :=
  { σ with tmps := σ.tmps.mapIdx fun t v => match own ops q t with | some j => if L j then vals j else v | none => v }

theorem stL_get (ops : List Oper) (q : Nat) (vals : Nat → V) (σ : St) (L : Nat → Bool) (t : Nat) :
    (stL ops q vals σ L).tmps[t]? = (σ.tmps[t]?).map fun v => match own ops q t with | some j => if L j then vals j else v | none => v := by
  simp [stL]

theorem St.put_get (σ : St) (d : Option Tmp) (v : V) (t : Nat) : (σ.put d v).tmps[t]? = if d = some t then (σ.tmps[t]?).map (fun _ => v) else σ.tmps[t]? := by
  cases d with
  | none => simp [St.put]
  | some d =>
    simp only [St.put, Option.some.injEq]
    rw [List.getElem?_set]
    by_cases h : d = t
    · subst h
      simp only [if_true]
      split
      · rename_i hlt; simp [hlt]
      · rename_i hlt; simp [List.getElem?_eq_none (by omega : σ.tmps.length ≤ d)]
    · simp [h]

theorem st_ext {σ σ' : St} (h1 : σ.H = σ'.H) (h2 : σ.defs = σ'.defs) (h3 : σ.cur = σ'.cur) (h4 : ∀ t : Nat, σ.tmps[t]? = σ'.tmps[t]?) : σ = σ' := by
  cases σ; cases σ'
  simp only at *
  subst h1; subst h2; subst h3
  congr
  exact List.ext_getElem? h4

/-- One more. -/
theorem stL_put {ops : List Oper} {q : Nat} (hok : DrawOk ops q) (vals : Nat → V) (σ : St) (L : Nat → Bool) {i : Nat} {o : Oper} (hi : i < q) (ho : ops[i]? = some o) :
    (stL ops q vals σ L).put o.dst (vals i) = stL ops q vals σ (fun j => L j || decide (j = i)) := by
  refine st_ext (by simp [stL]) (by cases o.dst <;> rfl) (by simp [stL]) fun t => ?_
  rw [St.put_get, stL_get, stL_get]
  by_cases hd : o.dst = some t
  · rw [if_pos hd, own_of hok hi ho hd]
    cases σ.tmps[t]? <;> simp
  · rw [if_neg hd]
    congr 1
    funext v
    cases hw : own ops q t with
    | none => rfl
    | some j =>
      have : j ≠ i := by
        rintro rfl
        obtain ⟨_, o', ho', hd'⟩ := own_some hw
        rw [ho] at ho'
        cases ho'
        exact hd hd'
      simp [this]

/-- What an operation looks at is the same as in the order of the text. -/
theorem agree_stL {ops : List Oper} {q : Nat} (hok : DrawOk ops q) (vals : Nat → V) (σ : St) (L : Nat → Bool) (hc : Closed ops L) {i : Nat} {o : Oper} (hi : i < q) (ho : ops[i]? = some o)
    (hr : ∀ e ∈ Bnd o, L e = true) (hn : L i = false) : AgreeL ops o (stL ops q vals σ fun j => decide (j < i)) (stL ops q vals σ L) := by
  refine ⟨.inr PreH.rfl', fun t ht => ?_⟩
  rw [stL_get, stL_get]
  congr 1
  funext v
  cases hw : own ops q t with
  | none => rfl
  | some j =>
    obtain ⟨hj, o', ho', hd'⟩ := own_some hw
    simp only
    rcases hok.look i o t hi ho ht j o' ho' hd' with ⟨h1, h2⟩ | rfl | ⟨h1, h2⟩
    · rw [closed_mask hok.up hc i o ho hr j h2]
      simp [h1]
    · rw [hn]
      simp
    · have : L j = false := by
        cases hL : L j with
        | false => rfl
        | true =>
          have := closed_mask hok.up hc j o' ho' (fun e he => hc j o' ho' hL e he) i h2
          rw [hn] at this; cases this
      rw [this]
      have : ¬ j < i := by omega
      simp [this]

/-- The values, out of the walk in the order of the text. -/
theorem evQs_vals {ops : List Oper} {q : Nat} (hok : DrawOk ops q) (hq : q ≤ ops.length) {n : Nat} (hn : n ≤ q) (σ : St) (k : St → Prop) : ∀ (m i : Nat) (vals : Nat → V), i + m = n →
    evQs P G ops ((ops.drop i).take m) (stL ops q vals σ fun j => decide (j < i)) k →
    ∃ vals' : Nat → V, (∀ j, j < i → vals' j = vals j) ∧ (∀ j o, i ≤ j → j < n → ops[j]? = some o → QC P G ops o (stL ops q vals' σ fun l => decide (l < j)) (vals' j)) ∧ k (stL ops q vals' σ fun j => decide (j < n)) := by
  intro m
  induction m with
  | zero =>
    intro i vals hm h
    have : i = n := by omega
    subst this
    exact ⟨vals, fun _ _ => rfl, fun j o h1 h2 _ => by omega, by simpa [evQs] using h⟩
  | succ m ih =>
    intro i vals hm h
    have hi : i < ops.length := by omega
    have ho : ops[i]? = some ops[i] := List.getElem?_eq_getElem hi
    have hdrop : (ops.drop i).take (m + 1) = ops[i] :: (ops.drop (i + 1)).take m := by
      rw [List.drop_eq_getElem_cons hi, List.take_succ_cons]
    rw [hdrop] at h
    obtain ⟨u, hu, hrest⟩ := evQs_ex h
    let vals1 : Nat → V := fun j => if j = i then u else vals j
    have heq : ∀ n, n ≤ i → (stL ops q vals1 σ fun j => decide (j < n)) = (stL ops q vals σ fun j => decide (j < n)) := by
      intro n hn'
      refine st_ext rfl rfl rfl fun t => ?_
      rw [stL_get, stL_get]
      congr 1
      funext v
      cases own ops q t with
      | none => rfl
      | some j =>
        simp only
        by_cases hj : j < n
        · have : j ≠ i := by omega
          simp [vals1, this]
        · simp [hj]
    have hput : (stL ops q vals σ fun j => decide (j < i)).put ops[i].dst u = stL ops q vals1 σ fun j => decide (j < i + 1) := by
      rw [← heq i (Nat.le_refl _)]
      have h1 : u = vals1 i := by simp [vals1]
      rw [h1, stL_put hok vals1 σ _ (by omega) ho]
      congr 1
      funext j
      by_cases hj : j = i
      · simp [hj]
      · simp only [hj, decide_false, Bool.or_false, decide_eq_decide]
        omega
    rw [hput] at hrest
    obtain ⟨vals', h1, h2, h3⟩ := ih (i + 1) vals1 (by omega) hrest
    refine ⟨vals', fun j hj => ?_, fun j o hj1 hj2 hjo => ?_, h3⟩
    · rw [h1 j (by omega)]
      have : j ≠ i := by omega
      simp [vals1, this]
    · by_cases hj : j = i
      · subst hj
        rw [ho] at hjo
        cases hjo
        have hsame : (stL ops q vals' σ fun l => decide (l < j)) = (stL ops q vals σ fun l => decide (l < j)) := by
          rw [← heq j (Nat.le_refl _)]
          refine st_ext rfl rfl rfl fun t => ?_
          rw [stL_get, stL_get]
          congr 1
          funext v
          cases own ops q t with
          | none => rfl
          | some l =>
            simp only
            by_cases hl : l < j
            · simp [hl, h1 l (by omega)]
            · simp [hl]
        rw [hsame, h1 j (by omega)]
        have : vals1 j = u := by simp [vals1]
        rw [this]
        exact hu
      · exact h2 j o (by omega) hj2 hjo

/-- Behind the quiet operations: one by one. -/
theorem draw_tail {ops : List Oper} {q : Nat} (hok : DrawOk ops q) {k : St → Prop} {Q : Exit → Act → World → Prop} {ro : Option Nat} : ∀ (fuel m : Nat) (listed : Array Bool) (σ : St) (a : Act) (w : World) (e : Env),
    q ≤ m → m ≤ ops.length → ops.length ≤ m + fuel → listed.size = ops.length → (∀ j, j < ops.length → listed.getD j true = decide (j < m)) → RSt G σ a w e → evOps P G ops (ops.drop m) σ k →
    (∀ σ' a' w' e', k σ' → σ'.cur = σ.cur → RSt G σ' a' w' e' → Ext σ.H w e σ'.H w' e' → Q .normal a' w') →
    wpAnyIn (FW ro) 0 P .any ops.toArray Q fuel listed a w := by
  intro fuel
  induction fuel with
  | zero =>
    intro m listed σ a w e hq hm hf hs hl h hk hQ
    have hme : m = ops.length := by omega
    refine ⟨?_, ?_⟩
    · refine List.eq_nil_iff_forall_not_mem.2 fun j hj => ?_
      obtain ⟨h1, o, ho, _⟩ := mem_ready.1 hj
      have hlt : j < ops.length := by
        rw [List.getElem?_toArray] at ho
        exact (List.getElem?_eq_some_iff.1 ho).1
      rw [hl j hlt] at h1
      simp at h1
      omega
    · have : ops.drop m = [] := by rw [hme]; exact List.drop_length
      rw [this] at hk
      exact hQ σ a w e hk rfl h (.refl _ _ _)
  | succ fuel ih =>
    intro m listed σ a w e hq hm hf hs hl h hk hQ
    have hlF : ∀ j, j < ops.length → listed.getD j false = decide (j < m) := by
      intro j hj
      have := hl j hj
      have hjs : j < listed.size := by omega
      simp [hjs] at this ⊢
      exact this
    refine ⟨fun hr => ?_, fun i hi => ?_⟩
    · by_cases hme : m = ops.length
      · have : ops.drop m = [] := by rw [hme]; exact List.drop_length
        rw [this] at hk
        exact hQ σ a w e hk rfl h (.refl _ _ _)
      · exfalso
        have hlt : m < ops.length := by omega
        have : m ∈ Region.ready .any ops.toArray listed := by
          refine mem_ready.2 ⟨by rw [hl m hlt]; simp, ops[m], by simp [hlt], fun ed hed hb => ?_⟩
          have := hok.up m ops[m] (List.getElem?_eq_getElem hlt) ed.on (List.mem_map.2 ⟨ed, List.mem_filter.2 ⟨by simpa using hed, hb⟩, rfl⟩)
          rw [hlF _ (by omega)]
          simpa using this
        rw [hr] at this
        cases this
    · obtain ⟨h1, o, ho, hall⟩ := mem_ready.1 hi
      rw [List.getElem?_toArray] at ho
      have hlt : i < ops.length := (List.getElem?_eq_some_iff.1 ho).1
      rw [hl i hlt] at h1
      simp at h1
      have him : i = m := by
        by_cases hh : m < i
        · exfalso
          have hc : Closed ops fun j => decide (j < m) := fun j o' hj hL e' he' => by
            simp at hL ⊢
            have := hok.up j o' hj e' he'
            omega
          have := closed_mask hok.up hc i o ho (fun e' he' => by
            obtain ⟨ed, hed, rfl⟩ := List.mem_map.1 he'
            obtain ⟨h3, h4⟩ := List.mem_filter.1 hed
            have h5 := hall ed (by simpa using h3) h4
            have h6 := hok.up i o ho _ he'
            rw [hlF _ (by omega)] at h5
            exact h5) m (hok.tail i o m (by omega) ho hh)
          simp at this
        · omega
      subst him
      have hdrop : ops.drop i = o :: ops.drop (i + 1) := by
        rw [List.drop_eq_getElem_cons hlt]
        congr
        have := List.getElem?_eq_getElem hlt
        rw [this] at ho
        exact Option.some.inj ho
      rw [hdrop] at hk
      refine evOps_step ho h hk fun σ' a' w' e' hk' hc' hst' hx' => ?_
      refine ih (i + 1) _ σ' a' w' e' (by omega) (by omega) (by omega) (by simpa using hs) (fun j hj => ?_) hst' hk' fun σ2 a2 w2 e2 hk2 hc2 hst2 hx2 => hQ σ2 a2 w2 e2 hk2 (hc2.trans hc') hst2 (hx'.trans hx2)
      by_cases hji : i = j
      · subst hji
        have hjs : i < listed.size := by omega
        simp [hjs]
      · rw [getD_set_ne true hji, hl j hj]
        simp only [decide_eq_decide]
        omega

/-- The quiet operations, in any order. -/
theorem draw_quiet {ops : List Oper} {q : Nat} (hok : DrawOk ops q) (hql : q ≤ ops.length) {σ : St} {vals : Nat → V} {k : St → Prop} {Q : Exit → Act → World → Prop} {ro : Option Nat}
    (hd : σ.tmps.map (V.demote (dq ops σ.H)) = σ.tmps)
    (hvals : ∀ j o, j < q → ops[j]? = some o → QC P G ops o (stL ops q vals σ fun l => decide (l < j)) (vals j))
    (hk : evOps P G ops (ops.drop q) (stL ops q vals σ fun j => decide (j < q)) k) {w0 : World} {e0 : Env}
    (hQ : ∀ σ' a' w' e', k σ' → σ'.cur = σ.cur → RSt G σ' a' w' e' → Ext σ.H w0 e0 σ'.H w' e' → Q .normal a' w') :
    ∀ (fuel : Nat) (listed : Array Bool) (a : Act) (w : World) (e : Env), listed.size = ops.length → (∀ j, q ≤ j → j < ops.length → listed.getD j true = false) → Closed ops (fun j => listed.getD j false) →
    (ops.length ≤ fuel + (List.range q).countP (fun j => listed.getD j false)) →
    RSt G (stL ops q vals σ fun j => listed.getD j false) a w e → Ext σ.H w0 e0 σ.H w e → wpAnyIn (FW ro) 0 P .any ops.toArray Q fuel listed a w := by
  have hdem : ∀ L, (stL ops q vals σ L).tmps.map (V.demote (dq ops σ.H)) = (stL ops q vals σ L).tmps := by
    intro L
    refine List.ext_getElem? fun t => ?_
    rw [List.getElem?_map, stL_get]
    cases hv : σ.tmps[t]? with
    | none => rfl
    | some v =>
      simp only [Option.map_some, Option.some.injEq]
      have hvd : V.demote (dq ops σ.H) v = v := by
        have : (σ.tmps.map (V.demote (dq ops σ.H)))[t]? = σ.tmps[t]? := by rw [hd]
        rw [List.getElem?_map, hv] at this
        simpa using this
      cases hw : own ops q t with
      | none => exact hvd
      | some j =>
        obtain ⟨hj, o, ho, _⟩ := own_some hw
        simp only
        split
        · exact (hvals j o hj ho).1
        · exact hvd
  intro fuel
  induction fuel with
  | zero =>
    intro listed a w e hs htail hc hf h hx
    have hcnt : (List.range q).countP (fun j => listed.getD j false) ≤ q := by
      have := List.countP_le_length (p := fun j => listed.getD j false) (l := List.range q)
      simpa using this
    have hqe : q = ops.length := by omega
    have hallq : ∀ j, j < q → listed.getD j false = true := by
      have : (List.range q).countP (fun j => listed.getD j false) = (List.range q).length := by rw [List.length_range]; omega
      rw [List.countP_eq_length] at this
      exact fun j hj => this j (List.mem_range.2 hj)
    have hst : (stL ops q vals σ fun j => listed.getD j false) = stL ops q vals σ fun j => decide (j < q) := by
      refine st_ext rfl rfl rfl fun t => ?_
      rw [stL_get, stL_get]
      congr 1
      funext v
      cases hw : own ops q t with
      | none => rfl
      | some j =>
        obtain ⟨hj, _⟩ := own_some hw
        simp [hallq j hj, hj]
    rw [hst] at h
    refine draw_tail hok 0 q listed _ a w e (Nat.le_refl _) hql (by omega) hs (fun j hj => ?_) h hk fun σ' a' w' e' h1 h2 h3 h4 => hQ σ' a' w' e' h1 h2 h3 (hx.trans h4)
    have hjs : j < listed.size := by omega
    have := hallq j (by omega)
    simp [hjs] at this ⊢
    rw [this]
    simp; omega
  | succ fuel ih =>
    intro listed a w e hs htail hc hf h hx
    by_cases hallq : ∀ j, j < q → listed.getD j false = true
    · have hst : (stL ops q vals σ fun j => listed.getD j false) = stL ops q vals σ fun j => decide (j < q) := by
        refine st_ext rfl rfl rfl fun t => ?_
        rw [stL_get, stL_get]
        congr 1
        funext v
        cases hw : own ops q t with
        | none => rfl
        | some j =>
          obtain ⟨hj, _⟩ := own_some hw
          simp [hallq j hj, hj]
      rw [hst] at h
      have hcnt : (List.range q).countP (fun j => listed.getD j false) ≤ q := by
        have := List.countP_le_length (p := fun j => listed.getD j false) (l := List.range q)
        simpa using this
      refine draw_tail hok (fuel + 1) q listed _ a w e (Nat.le_refl _) hql (by omega) hs (fun j hj => ?_) h hk fun σ' a' w' e' h1 h2 h3 h4 => hQ σ' a' w' e' h1 h2 h3 (hx.trans h4)
      have hjs : j < listed.size := by omega
      by_cases hjq : j < q
      · have := hallq j hjq
        simp [hjs] at this ⊢
        rw [this]
        simp; omega
      · rw [htail j (by omega) hj]
        simp; omega
    · -- the least that has not been carried out may come up
      have hleast : ∃ j, j < q ∧ listed.getD j false = false ∧ ∀ l, l < j → listed.getD l false = true := by
        have : ∃ j, j < q ∧ listed.getD j false = false := by
          by_cases hh : ∃ j, j < q ∧ listed.getD j false = false
          · exact hh
          · exact absurd (fun j hj => by
              cases hb : listed.getD j false with
              | true => rfl
              | false => exact absurd ⟨j, hj, hb⟩ hh) hallq
        obtain ⟨j, hj⟩ := this
        induction j using Nat.strongRecOn with
        | _ j ihj =>
          by_cases hl : ∀ l, l < j → listed.getD l false = true
          · exact ⟨j, hj.1, hj.2, hl⟩
          · have : ∃ l, l < j ∧ listed.getD l false = false := by
              by_cases hh : ∃ l, l < j ∧ listed.getD l false = false
              · exact hh
              · exact absurd (fun l hlj => by
                  cases hb : listed.getD l false with
                  | true => rfl
                  | false => exact absurd ⟨l, hlj, hb⟩ hh) hl
            obtain ⟨l, hl1, hl2⟩ := this
            exact ihj l hl1 ⟨by omega, hl2⟩
      obtain ⟨j0, hj0, hj0f, hj0l⟩ := hleast
      have hgd : ∀ j, j < ops.length → listed.getD j true = listed.getD j false := by
        intro j hj
        have hjs : j < listed.size := by omega
        simp [hjs]
      refine ⟨fun hr => ?_, fun i hi => ?_⟩
      · exfalso
        have hlt : j0 < ops.length := by omega
        have : j0 ∈ Region.ready .any ops.toArray listed := by
          refine mem_ready.2 ⟨by rw [hgd j0 hlt]; exact hj0f, ops[j0], by simp [hlt], fun ed hed hb => ?_⟩
          exact hj0l _ (hok.up j0 ops[j0] (List.getElem?_eq_getElem hlt) ed.on (List.mem_map.2 ⟨ed, List.mem_filter.2 ⟨by simpa using hed, hb⟩, rfl⟩))
        rw [hr] at this
        cases this
      · obtain ⟨h1, o, ho, hall⟩ := mem_ready.1 hi
        rw [List.getElem?_toArray] at ho
        have hlt : i < ops.length := (List.getElem?_eq_some_iff.1 ho).1
        have hbnd : ∀ e' ∈ Bnd o, listed.getD e' false = true := fun e' he' => by
          obtain ⟨ed, hed, rfl⟩ := List.mem_map.1 he'
          obtain ⟨h3, h4⟩ := List.mem_filter.1 hed
          exact hall ed (by simpa using h3) h4
        have hiq : i < q := by
          rcases Nat.lt_or_ge i q with h2 | h2
          · exact h2
          · exfalso
            have := closed_mask hok.up hc i o ho hbnd j0 (hok.tail i o j0 h2 ho (by omega))
            simp only [hj0f] at this
            cases this
        have hif : listed.getD i false = false := by rw [← hgd i hlt]; exact h1
        refine qc_run ho (hvals i o hiq ho) (agree_stL hok vals σ _ hc hiq ho hbnd hif) h (hdem _) fun a' w' e' hst' hx' => ?_
        rw [stL_put hok vals σ _ hiq ho] at hst'
        have hLeq : (fun j => listed.getD j false || decide (j = i)) = fun j => (listed.setIfInBounds i true).getD j false := by
          funext j
          by_cases hji : i = j
          · subst hji
            have hjs : i < listed.size := by omega
            simp [hjs]
          · have hji' : ¬ j = i := fun h => hji h.symm
            rw [getD_set_ne false hji]
            simp [hji']
        rw [hLeq] at hst'
        refine ih _ a' w' e' (by simpa using hs) (fun j hj hjl => ?_) (fun j o' hj hL e'' he'' => ?_) ?_ hst' (hx.trans hx')
        · rw [getD_set_ne true (by omega)]
          exact htail j hj hjl
        · simp only [← congrFun hLeq j] at hL
          simp only [← congrFun hLeq e'']
          simp only [Bool.or_eq_true, decide_eq_true_eq] at hL ⊢
          rcases hL with hL | rfl
          · exact .inl (hc j o' hj hL e'' he'')
          · rw [ho] at hj
            cases hj
            exact .inl (hbnd e'' he'')
        · have hcnt : (List.range q).countP (fun j => (listed.setIfInBounds i true).getD j false) = (List.range q).countP (fun j => listed.getD j false) + 1 := by
            rw [← hLeq]
            have gen : ∀ n, (List.range n).countP (fun j => listed.getD j false || decide (j = i)) = (List.range n).countP (fun j => listed.getD j false) + if i < n then 1 else 0 := by
              intro n
              induction n with
              | zero => simp
              | succ n ihn =>
                rw [List.range_succ, List.countP_append, List.countP_append, ihn]
                simp only [List.countP_cons, List.countP_nil, Nat.zero_add]
                by_cases hni : n = i
                · subst hni
                  rw [hif]
                  simp
                · simp only [hni, decide_false, Bool.or_false]
                  by_cases h1 : i < n
                  · have h2 : i < n + 1 := by omega
                    rw [if_pos h1, if_pos h2]; omega
                  · have h2 : ¬ i < n + 1 := by omega
                    rw [if_neg h1, if_neg h2]; omega
            rw [gen q, if_pos hiq]
          rw [hcnt]
          omega

/-- A region that draws its order. -/
theorem wpc_draw {id : Nat} {ops : Array Oper} {Φ : Exit → St → Prop} {σ : St} (q : Nat) (hm : P.follows .mixedOrders = true) (hql : q ≤ ops.toList.length) (hok : drawOk ops.toList q = true)
    (h : evQs P G ops.toList (ops.toList.take q) { σ with tmps := σ.tmps.map (V.demote (dq ops.toList σ.H)) } fun σ' => evOps P G ops.toList (ops.toList.drop q) σ' (Φ .normal)) : WPc P G (.region id ops true) Φ σ := by
  intro a w e hst
  have hok := drawOk_spec hok
  refine wpIn_region_any hm ?_
  let σ1 : St := { σ with tmps := σ.tmps.map (V.demote (dq ops.toList σ.H)) }
  obtain ⟨hst1, hx1⟩ := hst.drew
  have hst2 : RSt G σ1 a w.drew e := ⟨hst1.heap, ⟨by
    show (σ.tmps.map _).length = _
    simpa using hst1.tmps.1, fun i v u hv hu => by
    simp only [σ1, List.getElem?_map] at hv
    obtain ⟨v', hv', rfl⟩ := Option.map_eq_some_iff.1 hv
    exact (hst1.tmps.2 i v' u hv' hu).demote _⟩, hst1.defs, hst1.defsN, hst1.cur⟩
  have h0 : ∀ vals, stL ops.toList q vals σ1 (fun j => decide (j < 0)) = σ1 := fun vals => by
    refine st_ext rfl rfl rfl fun t => ?_
    rw [stL_get]
    cases σ1.tmps[t]? with
    | none => rfl
    | some v => cases own ops.toList q t <;> simp
  obtain ⟨vals, _, hv, hk⟩ := evQs_vals hok hql (Nat.le_refl q) σ1 _ q 0 (fun _ => .bad) (by omega) (by rw [h0]; simpa using h)
  have := draw_quiet (ro := σ.cur.map e.ρ) hok hql (σ := σ1) (vals := vals) (Q := fun x a' w' => ∃ σ' e', Φ x σ' ∧ σ'.cur = σ.cur ∧ RSt G σ' a' w' e' ∧ Ext σ.H w e σ'.H w' e') (w0 := w) (e0 := e)
    (by simp only [σ1, List.map_map]; exact List.map_congr_left fun v _ => demote_demote _ v)
    (fun j o hj ho => hv j o (by omega) hj ho) hk (fun σ' a' w' e' h1 h2 h3 h4 => ⟨σ', e', h1, h2, h3, h4⟩)
    ops.size (Array.replicate ops.size false) a w.drew e (by simp) (fun j _ hj => by
      have hj' : j < ops.size := by simpa using hj
      simp [hj']) (fun i o hi hL => by
      exfalso
      have hi' : i < ops.size := by have := (List.getElem?_eq_some_iff.1 hi).1; simpa using this
      simp [hi'] at hL) (by simp) (by
      have : (fun j => (Array.replicate ops.size false).getD j false) = fun j => decide (j < 0) := by
        funext j
        simp
        by_cases hj : j < ops.size <;> simp [hj]
      rw [this, h0]
      exact hst2) hx1
  simpa using this

end Go.Abs

/-! Sound15 -/
/- Scope; cutting off what a call has laid for itself; the frame rule. -/
namespace Go.Abs
open Go.RowKit

variable {P : Program} {G : Nat → Option (List V)}

/-! ### scope -/
theorem Rep.scope {w : World} {e : Env} {v : V} {u : Value} (h : Rep w e v u) : VW e.N v v := by
  induction h with
  | im v => exact .im v
  | str l => exact .str l
  | ptr id off hid => exact .ptr id off hid
  | rp cs b o u h1 h2 ih => exact .rp cs
  | nil es fl => exact .dat _ _ _
  | nul es fl a => exact .dat _ _ _
  | dat es rows fl => exact .dat _ _ _
  | arr id es len cap hid h => exact .arr id es len hid
  | sub id es off len cap o hid h => exact .sub id es off len hid
  | fn f first caps first' caps' hl1 hl2 h1 h2 ih1 ih2 =>
    refine .fn f first caps (fun i v hv => ?_) (fun i v hv => ?_)
    · have hi : i < first'.size := by have := (List.getElem?_eq_some_iff.1 hv).1; omega
      exact ih1 i v _ hv (Array.getElem?_eq_getElem hi)
    · have hi : i < caps'.size := by have := (List.getElem?_eq_some_iff.1 hv).1; omega
      exact ih2 i v _ hv (Array.getElem?_eq_getElem hi)
  | mp id hid => exact .mp id hid
  | yld id hid => exact .yld id hid
  | agg cs us hl h ih =>
    refine .agg cs cs rfl fun i v v' hv hv' => ?_
    rw [hv] at hv'; cases hv'
    have hi : i < us.size := by have := (List.getElem?_eq_some_iff.1 hv).1; omega
    exact ih i v _ hv (Array.getElem?_eq_getElem hi)
  | tup cs us hl h ih =>
    refine .tup cs cs rfl fun i v v' hv hv' => ?_
    rw [hv] at hv'; cases hv'
    have hi : i < us.size := by have := (List.getElem?_eq_some_iff.1 hv).1; omega
    exact ih i v _ hv (Array.getElem?_eq_getElem hi)
  | bad v => exact .bad _

theorem VWs.self {n : Nat} : ∀ {vs : List V}, (∀ (i : Nat) (v : V), vs[i]? = some v → VW n v v) → VWs n vs vs
  | [], _ => .nil
  | _ :: _, h => .cons (h 0 _ rfl) (VWs.self fun i v hv => h (i + 1) v (by simpa using hv))

theorem RepBlk.scope {w : World} {e : Env} {r : Nat} {b : Blk} (h : RepBlk w e r b) : BW e.N (some b) (some b) := by
  cases h with
  | cells t vs cs hb hl hh =>
    refine .cells t vs vs (.self fun i v hv => ?_)
    have hi : i < cs.size := by have := (List.getElem?_eq_some_iff.1 hv).1; omega
    exact (hh i v _ hv (Array.getElem?_eq_getElem hi)).1.scope
  | iter k since stepped seen hb hd => exact .iter k since stepped seen hd
  | map es ms c hb hl hk hh =>
    have one : ∀ (i : Nat) (x : V × V), es[i]? = some x → VW e.N x.1 x.1 ∧ VW e.N x.2 x.2 := fun i x hx => by
      have hi : i < ms.size := by have := (List.getElem?_eq_some_iff.1 hx).1; omega
      have := hh i x _ hx (Array.getElem?_eq_getElem hi)
      exact ⟨this.1.scope, this.2.scope⟩
    refine .map es es c (.self fun i v hv => ?_) (.self fun i v hv => ?_)
    · rw [List.getElem?_map] at hv
      obtain ⟨x, hx, rfl⟩ := Option.map_eq_some_iff.1 hv
      exact (one i x hx).1
    · rw [List.getElem?_map] at hv
      obtain ⟨x, hx, rfl⟩ := Option.map_eq_some_iff.1 hv
      exact (one i x hx).2
  | defd hb => exact .defd
  | loop st pend fn tmps ps a b d us hb hd hl hh =>
    refine .loop st pend tmps tmps ps a b d (.self fun i v hv => ?_) hd
    have hi : i < us.size := by have := (List.getElem?_eq_some_iff.1 hv).1; omega
    exact (hh i v _ hv (Array.getElem?_eq_getElem hi)).scope

/-- No block of a heap names one beyond it. -/
def Scoped (H : Heap) : Prop := ∀ (id : Nat) (b : Blk), H[id]? = some (some b) → BW H.length (some b) (some b)

theorem RHeap.inScope {H : Heap} {w : World} {e : Env} (h : RHeap G H w e) : Scoped H := fun id b hb => by
  rw [← h.len]
  exact (h.blk id b hb).scope

theorem BWs.of {n : Nat} : ∀ {H' H : Heap}, (∀ (i : Nat) (y : Option Blk), H'[i]? = some y → ∃ x, H[i]? = some x ∧ BW n x y) → BWs n H H'
  | [], H, _ => .nil H
  | y :: H', [], h => by
    obtain ⟨x, hx, _⟩ := h 0 y rfl
    simp at hx
  | y :: H', x :: H, h => by
    obtain ⟨x', hx, hb⟩ := h 0 y rfl
    simp at hx
    subst hx
    exact .cons hb (BWs.of fun i y hy => by
      obtain ⟨x, hx, hb⟩ := h (i + 1) y (by simpa using hy)
      exact ⟨x, by simpa using hx, hb⟩)

/-! ### cutting off -/
/-- A heap whose first blocks are H1; all that these name is there. -/
def Cut (n : Nat) (H H' H1 : Heap) : Prop := ∃ X, H' = H1 ++ X ∧ H1.length = n ∧ ∀ (id : Nat) (b : Blk), H1[id]? = some (some b) → H[id]? = some (some b) ∨ BW n (some b) (some b)

theorem cut_post {H H' H1 : Heap} {w w' : World} {e e' : Env} {r : V} {v : Value} (hR : RHeap G H w e) (hc : Cut H.length H H' H1) (hr : VW H.length r r) (hR' : RHeap G H' w' e') (hv : RepF w' e' r v) (hx : Ext H w e H' w' e') :
    RHeap G H1 w' (e'.cutTo H.length) ∧ RepF w' (e'.cutTo H.length) r v ∧ Ext H w e H1 w' (e'.cutTo H.length) := by
  obtain ⟨X, rfl, hl, hsc⟩ := hc
  have hb : BWs H1.length (H1 ++ X) H1 := BWs.of fun i y hy => by
    refine ⟨y, by rw [List.getElem?_append_left (List.getElem?_eq_some_iff.1 hy).1]; exact hy, ?_⟩
    cases y with
    | none => exact .drop _
    | some b =>
      rw [hl]
      rcases hsc i b hy with h | h
      · exact hR.inScope i b h
      · exact h
  obtain ⟨h1, h2⟩ := hR'.cutTo hb
  have hn : H1.length ≤ e'.N := by rw [hR'.len]; simp
  rw [hl] at h1 hn
  exact ⟨h1, hr.repF hn hv, ⟨hx.os, hx.tape, hx.output, hx.size, by omega, hx.ρ, fun id h3 h4 => hx.new id h3 (h2 id h4), fun id h3 h4 => hx.old id h3 (h2 id h4), hx.ro, hx.roNew, hx.spNew, hx.cell, hx.block⟩⟩

theorem StCall.cut {f : FuncId} {args : List V} {H : Heap} {Ψ : V → Heap → Prop} (h : StCall P G f args H fun r H' => ∃ H1, Cut H.length H H' H1 ∧ VW H.length r r ∧ Ψ r H1) : StCall P G f args H Ψ := by
  intro w e us hR hargs
  refine CallsIn.mono (h w e us hR hargs) ?_
  rintro en w' ⟨v, r, H', e', rfl, ⟨H1, hc, hr, hΨ⟩, hR', hv, hx⟩
  obtain ⟨h1, h2, h3⟩ := cut_post hR hc hr hR' hv hx
  exact ⟨v, r, H1, _, rfl, hΨ, h1, h2, h3⟩

theorem StYield.mono {id : Nat} {args : List V} {H : Heap} {Ψ Ψ' : V → Heap → Prop} (h : StYield P G id args H Ψ) (hm : ∀ r H', Ψ r H' → Ψ' r H') : StYield P G id args H Ψ' := by
  intro w e us hR hargs
  obtain ⟨r, w1, l, f, tmps, as, bd, h1, h2, h3, h4⟩ := h w e us hR hargs
  refine ⟨r, w1, l, f, tmps, as, bd, h1, h2, h3, RoundIn.mono h4 ?_⟩
  rintro en w' ⟨v, r, H', e', h1, h2, h3⟩
  exact ⟨v, r, H', e', h1, hm _ _ h2, h3⟩

theorem StYield.cut {id : Nat} {args : List V} {H : Heap} {Ψ : V → Heap → Prop} (h : StYield P G id args H fun r H' => ∃ H1, Cut H.length H H' H1 ∧ VW H.length r r ∧ Ψ r H1) : StYield P G id args H Ψ := by
  intro w e us hR hargs
  obtain ⟨r, w1, l, f, tmps, as, bd, h1, h2, h3, h4⟩ := h w e us hR hargs
  refine ⟨r, w1, l, f, tmps, as, bd, h1, h2, h3, RoundIn.mono h4 ?_⟩
  rintro en w' ⟨v, r, H', e', rfl, ⟨H1, hc, hr, hΨ⟩, hR', hv, hx⟩
  obtain ⟨h1, h2, h3⟩ := cut_post hR hc hr hR' hv hx
  exact ⟨v, r, H1, _, rfl, hΨ, h1, h2, h3⟩

theorem StCall.inScope {f : FuncId} {args : List V} {H : Heap} {Ψ : V → Heap → Prop} (h : Scoped H → StCall P G f args H Ψ) : StCall P G f args H Ψ := fun w e us hR => h hR.inScope w e us hR
theorem StYield.inScope {id : Nat} {args : List V} {H : Heap} {Ψ : V → Heap → Prop} (h : Scoped H → StYield P G id args H Ψ) : StYield P G id args H Ψ := fun w e us hR => h hR.inScope w e us hR

/-! ### the frame rule -/
theorem RepBlk.mono2 {w w' : World} {e e' : Env} {r : Nat} {b : Blk} (h : RepBlk w e r b) (hN : e.N ≤ e'.N) (hρ : ∀ id, id < e.N → e'.ρ id = e.ρ id) (hro : ∀ b o, e.RO b o → e'.RO b o ∧ cel w' b o = cel w b o)
    (hsp : ∀ c, b.hasCls c = true → ∀ b o, e.Sp c b o → e'.Sp c b o) (hb : w'.heap[r]? = w.heap[r]?) : RepBlk w' e' r b := by
  cases h with
  | cells t vs cs hb' hl hh =>
    refine .cells t vs cs (hb.trans hb') hl fun i v u hv hu => ⟨(hh i v u hv hu).1.mono' hN hρ hro, (hh i v u hv hu).2.mono fun es rows c hc => hsp c ?_⟩
    subst hc
    simp only [Blk.hasCls, List.any_eq_true]
    exact ⟨_, List.mem_of_getElem? hv, by simp [V.hasCls]⟩
  | iter k since stepped seen hb' hd => exact .iter k since stepped seen (by rw [hρ k hd]; exact hb.trans hb') (by omega)
  | map es ms c hb' hl hk hh => exact .map es ms c (hb.trans hb') hl hk fun i x m hx hm => ⟨(hh i x m hx hm).1.mono' hN hρ hro, (hh i x m hx hm).2.mono' hN hρ hro⟩
  | defd hb' => exact .defd (hb.trans hb')
  | loop st pend fn tmps ps a b d us hb' hd hl hh =>
    exact .loop st pend fn tmps ps a b d us (by rw [hρ d hd]; exact hb.trans hb') (by omega) hl fun i v u hv hu => (hh i v u hv hu).mono' hN hρ hro

theorem hasCls_heap {H : Heap} {id : Nat} {b : Blk} {c : Nat} (h : H[id]? = some (some b)) (hc : b.hasCls c = true) : heapCls H c = true := by
  unfold heapCls
  rw [List.any_eq_true]
  exact ⟨some b, List.mem_of_getElem? h, hc⟩

/-- The environment of the first blocks alone. -/
def Env.first (e : Env) (H : Heap) : Env := { N := H.length, ρ := e.ρ, RO := e.RO, Sp := fun c b o => heapCls H c = true ∧ e.Sp c b o }
/-- Back. -/
def Env.back (e' e : Env) (H : Heap) : Env := { N := e.N, ρ := e.ρ, RO := e'.RO, Sp := fun c b o => e'.Sp c b o ∨ (heapCls H c = false ∧ e.Sp c b o) }

theorem rep_first {w : World} {e : Env} {H : Heap} (hN : H.length ≤ e.N) {v : V} {u : Value} (hs : VW H.length v v) (h : Rep w e v u) : Rep w (e.first H) v u :=
  (hs.rep hN h).mono' (e := e.cutTo H.length) (e' := e.first H) (Nat.le_refl _) (fun _ _ => rfl) fun _ _ h => ⟨h, rfl⟩

theorem RHeap.first {H X : Heap} {w : World} {e : Env} (hR : RHeap G (H ++ X) w e) (hs : Scoped H) : RHeap G H w (e.first H) := by
  have hlen := hR.len
  simp only [List.length_append] at hlen
  have hget : ∀ (id : Nat) (b : Option Blk), H[id]? = some b → (H ++ X)[id]? = some b := fun id b hb => by
    rw [List.getElem?_append_left (List.getElem?_eq_some_iff.1 hb).1]; exact hb
  have hlive : ∀ id, live H id → live (H ++ X) id := fun id ⟨b, hb⟩ => ⟨b, hget id _ hb⟩
  refine ⟨rfl, fun id b hb => ?_, fun i j hi hj => hR.inj i j (hlive i hi) (hlive j hj), hR.ro, fun id o hl => hR.roOwn id o (hlive id hl), fun c b o h => ?_, fun c c' b o h1 h2 => hR.spd c c' b o h1.2 h2.2, fun g cs h => ?_⟩
  · have h1 := (hs id b hb).repBlk (e := e) (by omega) (hR.blk id b (hget id _ hb))
    exact h1.mono2 (e := e.cutTo H.length) (e' := e.first H) (Nat.le_refl _) (fun _ _ => rfl) (fun _ _ h => ⟨h, rfl⟩) (fun c hc b' o h => ⟨hasCls_heap hb hc, h⟩) rfl
  · obtain ⟨h1, h2, h3, h4⟩ := hR.sp c b o h.2
    exact ⟨h1, h2, h3, fun id hl => h4 id (hlive id hl)⟩
  · exact rep_first (by omega) (.rp cs) (hR.glob g cs h)

theorem frame_post {H H' X : Heap} {w w' : World} {e e' : Env} {r : V} {v : Value} (hR : RHeap G (H ++ X) w e) (hX : ∀ c, heapCls X c = true → heapCls H c = false) (hl : H'.length = H.length)
    (hR' : RHeap G H' w' e') (hv : RepF w' e' r v) (hx : Ext H w (e.first H) H' w' e') :
    RHeap G (H' ++ X) w' (e'.back e H) ∧ RepF w' (e'.back e H) r v ∧ Ext (H ++ X) w e (H' ++ X) w' (e'.back e H) := by
  have hlen := hR.len
  simp only [List.length_append] at hlen
  have hlen' := hR'.len
  have hρ : ∀ id, id < e'.N → (e'.back e H).ρ id = e'.ρ id := fun id hid => (hx.ρ id (by omega)).symm
  have hgetH : ∀ (id : Nat) (b : Option Blk), H[id]? = some b → (H ++ X)[id]? = some b := fun id b hb => by
    rw [List.getElem?_append_left (List.getElem?_eq_some_iff.1 hb).1]; exact hb
  have hliveH : ∀ id, live H id → live (H ++ X) id := fun id ⟨b, hb⟩ => ⟨b, hgetH id _ hb⟩
  -- blocks of the new heap
  have hcase : ∀ id b, (H' ++ X)[id]? = some (some b) → (id < H.length ∧ H'[id]? = some (some b)) ∨ (H.length ≤ id ∧ (H ++ X)[id]? = some (some b)) := by
    intro id b hb
    by_cases hid : id < H'.length
    · rw [List.getElem?_append_left hid] at hb
      exact .inl ⟨by omega, hb⟩
    · rw [List.getElem?_append_right (by omega), hl] at hb
      exact .inr ⟨by omega, by rw [List.getElem?_append_right (by omega)]; exact hb⟩
  have hlive : ∀ id, live (H' ++ X) id → live (H ++ X) id ∧ ((id < H.length ∧ live H' id) ∨ (H.length ≤ id ∧ ¬ live H id)) := by
    rintro id ⟨b, hb⟩
    rcases hcase id b hb with ⟨h1, h2⟩ | ⟨h1, h2⟩
    · exact ⟨hliveH id (hx.old id h1 ⟨b, h2⟩), .inl ⟨h1, b, h2⟩⟩
    · exact ⟨⟨b, h2⟩, .inr ⟨h1, fun h => by have := live_lt h; omega⟩⟩
  -- what is the frame's own is not touched
  have hnown : ∀ id, live (H ++ X) id → H.length ≤ id → ∀ id', live H id' → e.ρ id' ≠ e.ρ id := fun id h1 h2 id' h3 he => by
    have := hR.inj id' id (hliveH id' h3) h1 he
    have := live_lt h3
    omega
  have hnsp : ∀ id, live (H ++ X) id → ∀ c o, ¬ (e.first H).Sp c (e.ρ id) o := fun id h1 c o h => (hR.sp c _ o h.2).2.2.2 id h1 rfl
  have hblk : ∀ id, live (H ++ X) id → H.length ≤ id → w'.heap[e.ρ id]? = w.heap[e.ρ id]? := fun id h1 h2 => hx.block _ (hR.liveLt h1) (hnown id h1 h2) (hnsp id h1)
  have hRf : ∀ b o, e.RO b o → e'.RO b o ∧ cel w' b o = cel w b o := by
    intro b o h
    refine ⟨hx.ro b o h, (hx.cell b o (lt_of_cel (hR.ro b o h)) (fun id hid he => ?_) fun c hc => ?_).1⟩
    · exact hR.roOwn id o (hliveH id hid) (he ▸ h)
    · exact (hR.sp c b o hc.2).2.2.1 h
  have hroN : ∀ id o, live (H ++ X) id → H.length ≤ id → ¬ e'.RO (e.ρ id) o := by
    intro id o h1 h2 h
    rcases hx.roNew _ _ h with h | h | ⟨c, h⟩ | ⟨id', h3, h4⟩
    · exact hR.roOwn id o h1 h
    · have := hR.liveLt h1; omega
    · exact hnsp id h1 c o h
    · exact hnown id h1 h2 id' h3 h4
  have hspOld : ∀ c b o, heapCls H c = false → e.Sp c b o → (∀ c', ¬ (e.first H).Sp c' b o) := by
    intro c b o hc h c' h'
    have := hR.spd c c' b o h h'.2
    subst this
    rw [h'.1] at hc
    cases hc
  refine ⟨⟨by show e.N = _; simp; omega, fun id b hb => ?_, fun i j hi hj he => ?_, hR'.ro, fun id o hli h => ?_, fun c b o h => ?_, fun c c' b o h1 h2 => ?_, fun g cs h => ?_⟩, ?_, ?_⟩
  · rcases hcase id b hb with ⟨h1, h2⟩ | ⟨h1, h2⟩
    · have := hR'.blk id b h2
      rw [hx.ρ id h1] at this
      exact this.mono2 (e' := e'.back e H) (by show e'.N ≤ e.N; omega) hρ (fun b o h => ⟨h, rfl⟩) (fun c _ b o h => .inl h) rfl
    · have := hR.blk id b h2
      refine this.mono2 (e' := e'.back e H) (Nat.le_refl _) (fun _ _ => rfl) hRf (fun c hc b' o h => .inr ⟨hX c ?_, h⟩) (hblk id ⟨b, h2⟩ h1)
      rw [List.getElem?_append_right h1] at h2
      exact hasCls_heap h2 hc
  · exact hR.inj i j (hlive i hi).1 (hlive j hj).1 he
  · obtain ⟨h1, h2⟩ := hlive id hli
    rcases h2 with ⟨h2, h3⟩ | ⟨h2, _⟩
    · refine hR'.roOwn id o h3 ?_
      rw [hx.ρ id h2]
      exact h
    · exact hroN id o h1 h2 h
  · rcases h with h | ⟨hc, h⟩
    · obtain ⟨h1, h2, h3, h4⟩ := hR'.sp c b o h
      refine ⟨h1, h2, h3, fun id hli he => ?_⟩
      obtain ⟨h5, h6⟩ := hlive id hli
      rcases h6 with ⟨h6, h7⟩ | ⟨h6, _⟩
      · exact h4 id h7 ((hx.ρ id h6).trans he)
      · rcases hx.spNew c b o h with h8 | ⟨c', h8⟩
        · have := hR.liveLt h5
          change e.ρ id = b at he
          omega
        · exact (hR.sp c' b o h8.2).2.2.2 id h5 he
    · obtain ⟨h1, h2, h3, h4⟩ := hR.sp c b o h
      have hlt := lt_of_cel h1
      have hcell := hx.cell b o hlt (fun id hid => h4 id (hliveH id hid)) (hspOld c b o hc h)
      refine ⟨by rw [hcell.1]; exact h1, by rw [hcell.2]; exact h2, fun h5 => ?_, fun id hli => h4 id (hlive id hli).1⟩
      rcases hx.roNew _ _ h5 with h6 | h6 | ⟨c', h6⟩ | ⟨id', h6, h7⟩
      · exact h3 h6
      · omega
      · exact hspOld c b o hc h c' h6
      · exact h4 id' (hliveH id' h6) h7
  · have cross : ∀ c c', e'.Sp c b o → heapCls H c' = false → e.Sp c' b o → c = c' := by
      intro c c' h1 hc h2
      rcases hx.spNew c b o h1 with h3 | ⟨c'', h3⟩
      · have := lt_of_cel (hR.sp c' b o h2).1; omega
      · exact absurd h3 (hspOld c' b o hc h2 c'')
    rcases h1 with h1 | ⟨hc1, h1⟩ <;> rcases h2 with h2 | ⟨hc2, h2⟩
    · exact hR'.spd c c' b o h1 h2
    · exact cross c c' h1 hc2 h2
    · exact (cross c' c h2 hc1 h1).symm
    · exact hR.spd c c' b o h1 h2
  · exact (hR'.glob g cs h).mono' (e' := e'.back e H) (by show e'.N ≤ e.N; omega) hρ fun b o h => ⟨h, rfl⟩
  · exact ⟨hv.1.mono' (e' := e'.back e H) (by show e'.N ≤ e.N; omega) hρ fun b o h => ⟨h, rfl⟩, hv.2.mono fun _ _ c _ b o h => .inl h⟩
  · refine ⟨hx.os, hx.tape, hx.output, hx.size, by simp [hl], fun _ _ => rfl, fun id h1 h2 => ?_, fun id _ h2 => (hlive id h2).1, hx.ro, fun b o h => ?_, fun c b o h => ?_, fun b o hb h1 h2 => ?_, fun b hb h1 h2 => ?_⟩
    · have := live_lt h2
      simp [hl] at this h1
      omega
    · rcases hx.roNew b o h with h1 | h1 | ⟨c, h1⟩ | ⟨id, h1, h2⟩
      · exact .inl h1
      · exact .inr (.inl h1)
      · exact .inr (.inr (.inl ⟨c, h1.2⟩))
      · exact .inr (.inr (.inr ⟨id, hliveH id h1, h2⟩))
    · rcases h with h | ⟨_, h⟩
      · rcases hx.spNew c b o h with h1 | ⟨c', h1⟩
        · exact .inl h1
        · exact .inr ⟨c', h1.2⟩
      · exact .inr ⟨c, h⟩
    · exact hx.cell b o hb (fun id hid => h1 id (hliveH id hid)) fun c hc => h2 c hc.2
    · exact hx.block b hb (fun id hid => h1 id (hliveH id hid)) fun c o hc => h2 c o hc.2

theorem reps_first {w : World} {e : Env} {H : Heap} (hN : H.length ≤ e.N) {vs : List V} {us : List Value} (ha : ∀ v ∈ vs, VW H.length v v ∧ v.strip = v) (h : Reps w e vs us) : Reps w (e.first H) vs us :=
  ⟨h.1, fun i v u hv hu => by
    obtain ⟨h1, h2⟩ := ha v (List.mem_of_getElem? hv)
    have := (rep_first hN h1 (h.2 i v u hv hu).1).strip
    rwa [h2] at this⟩

/-- What a call doesn't know of stays as it is. -/
theorem StCall.frame {f : FuncId} {args : List V} {H : Heap} {Ψ : V → Heap → Prop} (X : Heap) (hs : Scoped H) (ha : ∀ v ∈ args, VW H.length v v ∧ v.strip = v) (hX : ∀ c, heapCls X c = true → heapCls H c = false)
    (h : StCall P G f args H fun r H' => H'.length = H.length ∧ Ψ r H') : StCall P G f args (H ++ X) fun r H'' => ∃ H', H'' = H' ++ X ∧ H'.length = H.length ∧ Scoped H' ∧ Ψ r H' := by
  intro w e us hR hargs
  have hN : H.length ≤ e.N := by rw [hR.len]; simp
  refine CallsIn.mono (h w _ us (hR.first hs) (reps_first hN ha hargs)) ?_
  rintro en w' ⟨v, r, H', e', rfl, ⟨hl, hΨ⟩, hR', hv, hx⟩
  obtain ⟨h1, h2, h3⟩ := frame_post hR hX hl hR' hv hx
  exact ⟨v, r, _, _, rfl, ⟨H', rfl, hl, hR'.inScope, hΨ⟩, h1, h2, h3⟩

theorem StYield.frame {id : Nat} {args : List V} {H : Heap} {Ψ : V → Heap → Prop} (X : Heap) (hs : Scoped H) (ha : ∀ v ∈ args, VW H.length v v ∧ v.strip = v) (hX : ∀ c, heapCls X c = true → heapCls H c = false)
    (h : StYield P G id args H fun r H' => H'.length = H.length ∧ Ψ r H') : StYield P G id args (H ++ X) fun r H'' => ∃ H', H'' = H' ++ X ∧ H'.length = H.length ∧ Scoped H' ∧ Ψ r H' := by
  intro w e us hR hargs
  have hN : H.length ≤ e.N := by rw [hR.len]; simp
  obtain ⟨r, w1, l, f, tmps, as, bd, h1, h2, h3, h4⟩ := h w _ us (hR.first hs) (reps_first hN ha hargs)
  refine ⟨r, w1, l, f, tmps, as, bd, h1, h2, h3, RoundIn.mono h4 ?_⟩
  rintro en w' ⟨v, r, H', e', rfl, ⟨hl, hΨ⟩, hR', hv, hx⟩
  obtain ⟨h1, h2, h3⟩ := frame_post hR hX hl hR' hv hx
  exact ⟨v, r, _, _, rfl, ⟨H', rfl, hl, hR'.inScope, hΨ⟩, h1, h2, h3⟩

end Go.Abs

/-! Sound16 -/
/- Iterators, and ranges over them. -/
namespace Go.Abs
open Go.RowKit

variable {P : Program} {G : Nat → Option (List V)}

/-- A function that yields these, one after the other; K: what it leans on in the heap. -/
def IterOf (P : Program) (G : Nat → Option (List V)) (f : FuncId) (pre caps : List V) (items : List (List V)) (K : Heap → Prop) : Prop :=
  ∀ (id n : Nat) (Inv : Nat → Heap → Prop) (Fin : Heap → Prop) (H : Heap),
    (∀ i H', Inv i H' → H'.length = n ∧ id < n ∧ K H') →
    (∀ H', Fin H' → H'.length = n) →
    (∀ (i : Nat) (x : List V) (H' : Heap), items[i]? = some x → Inv i H' → Scoped H' → StYield P G id x H' fun r H'' => H''.length = H'.length ∧ ((r = .bool true ∧ Inv (i + 1) H'') ∨ (r = .bool false ∧ Fin H''))) →
    (∀ H', Inv items.length H' → Fin H') → Inv 0 H →
    StCall P G f ((pre ++ [V.yld id] ++ caps).map V.strip) H fun _ H' => Fin H'

/-- The heap in which a loop's rounds run. -/
def loopH (st : LoopState) (H : Heap) (T : List V) (ps : Array Tmp) (as bd : Code) : Heap := H ++ [some .defd, some (.loop st none T ps as bd H.length)]

/-- What a round's body owes. -/
def bodyΦ (σ : St) (H : Heap) (ps : Array Tmp) (as bd : Code) (Jn : Heap → Prop) (Φ : Exit → St → Prop) (x : Exit) (σ2 : St) : Prop :=
  ∃ H2 X, σ2.H = loopH .busy H2 (σ.tmps.map V.strip) ps as bd ++ X ∧ H2.length = σ.H.length ∧
    (∀ (id : Nat) (b : Blk), H2[id]? = some (some b) → H[id]? = some (some b) ∨ BW (σ.H.length + 2) (some b) (some b)) ∧
    match x with
    | .normal => Jn H2
    | .ret | .exit _ | .goto _ => Φ x { σ with tmps := σ.tmps.map V.strip, H := H2 ++ [some .defd, none], defs := σ.H.length :: σ.defs }
    | _ => False

theorem get_app {α : Type} (H L : List α) (k : Nat) : (H ++ L)[H.length + k]? = L[k]? := by
  rw [List.getElem?_append_right (by omega)]
  congr 1
  omega

theorem set_app {α : Type} (H L : List α) (k : Nat) (x : α) : (H ++ L).set (H.length + k) x = H ++ L.set k x := by
  rw [List.set_append_right _ _ (by omega)]
  congr 2
  omega

/-- A range over an iterator. -/
theorem wpc_rangeIterW {f : Operand} {ps : Array Tmp} {as bd : Code} {Φ : Exit → St → Prop} {σ : St} {g : FuncId} {fn : Func} {first caps : List V} {items : List (List V)} {K : Heap → Prop}
    (it : IterOf P G g first caps items K) (hcur : σ.cur = none) (hf : σ.ev f = .fn (.func g) first caps) (hfn : P.funcs[g]? = some fn) (hbody : fn.body.isSome) (hname : (fn.name == "runtime.NumGoroutine") = false)
    (J : Nat → Heap → Prop) (h0 : J 0 σ.H) (hlen : ∀ i H, J i H → H.length = σ.H.length)
    (hK : ∀ i H, J i H → K (loopH .ready H (σ.tmps.map V.strip) ps as bd))
    (hps : ∀ x ∈ items, x.length = ps.size)
    (round : ∀ (i : Nat) (x : List V) (H : Heap), items[i]? = some x → J i H → H.length = σ.H.length → Scoped (loopH .ready H (σ.tmps.map V.strip) ps as bd) →
      WPc P G as (fun ex σ1 => ex = .normal ∧ σ1.H[H.length + 1]? = some (some (.loop .ready none (σ.tmps.map V.strip) ps as bd H.length)) ∧
          WPc P G bd (bodyΦ σ H ps as bd (J (i + 1)) Φ) { σ1 with H := σ1.H.set (H.length + 1) (some (.loop .busy none (σ.tmps.map V.strip) ps as bd H.length)) })
        { tmps := setParams ps.toList x (σ.tmps.map V.strip), H := loopH .ready H (σ.tmps.map V.strip) ps as bd, defs := [], cur := some (H.length + 1) })
    (hfin : ∀ H, J items.length H → Φ .normal { σ with tmps := σ.tmps.map V.strip, H := H ++ [some .defd, none], defs := σ.H.length :: σ.defs }) :
    WPc P G (.rangeFunc f ps as bd) Φ σ := by
  refine wpc_rangeFunc hcur hf hfn hbody hname ?_
  have hstrip : ∀ T : List V, (T.map V.strip).map V.strip = T.map V.strip := fun T => by
    rw [List.map_map]
    exact List.map_congr_left fun v _ => by simp [strip_eq, demote_demote]
  have hH0 : σ.H ++ [some Blk.defd] ++ [some (Blk.loop .ready none (σ.tmps.map V.strip) ps as bd σ.H.length)] = loopH .ready σ.H (σ.tmps.map V.strip) ps as bd := by simp [loopH]
  rw [hH0]
  have hget : ∀ (st : LoopState) (H : Heap), (loopH st H (σ.tmps.map V.strip) ps as bd)[H.length + 1]? = some (some (.loop st none (σ.tmps.map V.strip) ps as bd H.length)) := fun st H => by
    unfold loopH
    rw [get_app]
    rfl
  refine (it (σ.H.length + 1) (σ.H.length + 2) (fun i H' => ∃ H, J i H ∧ H' = loopH .ready H (σ.tmps.map V.strip) ps as bd)
    (fun H' => H'.length = σ.H.length + 2 ∧ rangeΦ P G (σ.H.length + 1) σ (σ.H.length :: σ.defs) Φ H') _ ?_ (fun H' h => h.1) ?_ ?_ ⟨_, h0, rfl⟩).mono fun _ _ h => h.2
  · rintro i H' ⟨H, hJ, rfl⟩
    refine ⟨?_, by omega, hK i H hJ⟩
    simp [loopH, hlen i H hJ]
  · rintro i x H' hx ⟨H, hJ, rfl⟩ hs
    have hl := hlen i H hJ
    refine StYield.cut ?_
    rw [← hl]
    have hr := round i x H hx hJ hl hs
    refine stYield (hget .ready H) (hps x (List.mem_of_getElem? hx)) ?_
    rw [hstrip]
    refine hr.mono ?_
    rintro ex σ1 ⟨h1, h2, h3⟩
    refine ⟨h1, h2, h3.mono ?_⟩
    rintro ex2 σ2 ⟨H2, X, hσ2, hl2, hsc, hex⟩
    have hg2 : σ2.H[H.length + 1]? = some (some (.loop .busy none (σ.tmps.map V.strip) ps as bd H2.length)) := by
      rw [hσ2, List.getElem?_append_left (by simp [loopH]; omega), hl, ← hl2]
      exact hget .busy H2
    have hset : ∀ (st : LoopState) (pend : Option Code), σ2.H.set (H.length + 1) (some (.loop st pend (σ.tmps.map V.strip) ps as bd H2.length)) =
        (H2 ++ [some .defd, some (.loop st pend (σ.tmps.map V.strip) ps as bd H2.length)]) ++ X := by
      intro st pend
      rw [hσ2, List.set_append_left _ _ (by simp [loopH]; omega), hl, ← hl2]
      unfold loopH
      rw [set_app]
      rfl
    have hcut : ∀ (st : LoopState) (pend : Option Code), Cut (loopH .ready H (σ.tmps.map V.strip) ps as bd).length (loopH .ready H (σ.tmps.map V.strip) ps as bd) (σ2.H.set (H.length + 1) (some (.loop st pend (σ.tmps.map V.strip) ps as bd H2.length)))
        (H2 ++ [some .defd, some (.loop st pend (σ.tmps.map V.strip) ps as bd H2.length)]) := by
      intro st pend
      have hL : (loopH .ready H (σ.tmps.map V.strip) ps as bd).length = σ.H.length + 2 := by simp [loopH, hl]
      refine ⟨X, hset st pend, by simp [hL, hl2], fun id b hb => ?_⟩
      by_cases hid : id < H2.length
      · rw [List.getElem?_append_left hid] at hb
        rw [hL]
        rcases hsc id b hb with h | h
        · exact .inl (by unfold loopH; rw [List.getElem?_append_left (by omega)]; exact h)
        · exact .inr h
      · obtain ⟨k, rfl⟩ : ∃ k, id = H2.length + k := ⟨id - H2.length, by omega⟩
        rw [get_app] at hb
        match k, hb with
        | 0, hb =>
          simp at hb
          subst hb
          exact .inr .defd
        | 1, hb =>
          simp at hb
          subst hb
          right
          have := hs (H.length + 1) _ (hget .ready H)
          cases this with
          | loop _ _ _ _ _ _ _ _ h hd => exact .loop _ _ _ _ _ _ _ _ h (by rw [hL]; omega)
        | k + 2, hb => simp at hb
    unfold roundΦ
    rw [hg2]
    simp only
    have hsetN : ∀ b : Option Blk, (H2 ++ [some Blk.defd, b]).set (σ.H.length + 1) none = H2 ++ [some .defd, none] := fun b => by
      rw [← hl2, set_app]
      rfl
    have hgetN : ∀ b : Blk, (H2 ++ [some Blk.defd, some b])[σ.H.length + 1]? = some (some b) := fun b => by
      rw [← hl2, get_app]
      rfl
    cases ex2 with
    | normal =>
      refine ⟨_, hcut .ready none, .im _, ?_, .inl ⟨trivial, H2, hex, rfl⟩⟩
      simp [loopH, hl2, hl]
    | ret =>
      refine ⟨_, hcut .done (some .ret), .im _, by simp [loopH, hl2, hl], .inr ⟨trivial, by simp [hl2, hl], ?_⟩⟩
      unfold rangeΦ
      rw [hl, hgetN]
      simp only [hsetN, evCode]
      exact ⟨by simp, hex⟩
    | exit j =>
      refine ⟨_, hcut .done (some (.exit j)), .im _, by simp [loopH, hl2, hl], .inr ⟨trivial, by simp [hl2, hl], ?_⟩⟩
      unfold rangeΦ
      rw [hl, hgetN]
      simp only [hsetN, evCode]
      exact ⟨by simp, hex⟩
    | goto l =>
      refine ⟨_, hcut .done (some (.goto l)), .im _, by simp [loopH, hl2, hl], .inr ⟨trivial, by simp [hl2, hl], ?_⟩⟩
      unfold rangeΦ
      rw [hl, hgetN]
      simp only [hsetN, evCode]
      exact ⟨by simp, hex⟩
    | panic c => exact hex.elim
    | outgrown => exact hex.elim
  · rintro H' ⟨H, hJ, rfl⟩
    have hl := hlen _ H hJ
    refine ⟨by simp [loopH, hl], ?_⟩
    unfold rangeΦ
    rw [← hl, hget .ready H]
    simp only
    refine ⟨by simp, ?_⟩
    have : (loopH .ready H (σ.tmps.map V.strip) ps as bd).set (H.length + 1) none = H ++ [some .defd, none] := by
      unfold loopH
      rw [set_app]
      rfl
    rw [this, hl]
    exact hfin H hJ

end Go.Abs

/-! Ev2 -/
/- The same conditions, laid out so that reduction alone works them out. -/
namespace Go.Abs
open Go.RowKit

/-- A condition that reduction settles. -/
def grd (b : Bool) (p : Prop) : Prop := match b with | true => p | false => False
theorem grd_iff {b : Bool} {p : Prop} : grd b p ↔ b = true ∧ p := by cases b <;> simp [grd]
theorem grd_intro {b : Bool} {p : Prop} (h1 : b = true) (h2 : p) : grd b p := grd_iff.2 ⟨h1, h2⟩

/-- A fork. -/
def br (b : Bool) (p q : Prop) : Prop := match b with | true => p | false => q
theorem br_iff {b : Bool} {p q : Prop} : br b p q ↔ (b = true → p) ∧ (b = false → q) := by cases b <;> simp [br]
theorem br_intro {b : Bool} {p q : Prop} (h1 : b = true → p) (h2 : b = false → q) : br b p q := br_iff.2 ⟨h1, h2⟩

theorem br_t {b : Bool} {p q : Prop} (h : b = true) (hp : p) : br b p q := br_intro (fun _ => hp) (fun h' => by rw [h] at h'; cases h')
theorem br_f {b : Bool} {p q : Prop} (h : b = false) (hq : q) : br b p q := br_intro (fun h' => by rw [h] at h'; cases h') (fun _ => hq)

/-- A value, its head worked out. -/
def force (v : V) (k : V → Prop) : Prop :=
  match v with
  | .im x => k (.im x)
  | .str l => k (.str l)
  | .ptr i o => k (.ptr i o)
  | .rp cs => k (.rp cs)
  | .dat e r f => k (.dat e r f)
  | .arr i e l => k (.arr i e l)
  | .sub i e o l => k (.sub i e o l)
  | .fn f a b => k (.fn f a b)
  | .mp i => k (.mp i)
  | .yld i => k (.yld i)
  | .agg cs => k (.agg cs)
  | .tup vs => k (.tup vs)
  | .bad => k .bad
theorem force_iff {v : V} {k : V → Prop} : force v k ↔ k v := by cases v <;> rfl

structure S2 where
  n : Nat
  base : List V
  upd : List (Nat × V)
  H : Heap
  defs : List Nat
  cur : Option Nat

def app : List (Nat × V) → List V → List V
  | [], b => b
  | (d, v) :: r, b => (app r b).set d v

def S2.st (s : S2) : St := { tmps := app s.upd s.base, H := s.H, defs := s.defs, cur := s.cur }

def S2.setH (s : S2) (H : Heap) : S2 := match s with | ⟨n, b, u, _, d, c⟩ => ⟨n, b, u, H, d, c⟩
theorem S2.setH_eq (s : S2) (H : Heap) : s.setH H = { s with H := H } := by cases s; rfl

theorem S2.setH_H (s : S2) (H : Heap) : (s.setH H).H = H := by cases s; rfl

structure S2.Wf (s : S2) : Prop where
  n : s.n ≤ s.base.length
  d : ∀ x ∈ s.upd, x.1 < s.base.length

def look : List (Nat × V) → List V → Nat → V
  | [], b, t => b.getD t .bad
  | (d, v) :: r, b, t => match Nat.beq d t with | true => v | false => look r b t

theorem app_length : ∀ (u : List (Nat × V)) (b : List V), (app u b).length = b.length
  | [], _ => rfl
  | _ :: r, b => by simp [app, app_length r b]

theorem look_eq (n : Nat) (b : List V) (hn : n ≤ b.length) (t : Nat) : ∀ u : List (Nat × V), (∀ x ∈ u, x.1 < n) → (app u b).getD t .bad = look u b t
  | [], _ => rfl
  | (d, v) :: r, h => by
    have hd : d < n := h (d, v) (by simp)
    have ih := look_eq n b hn t r fun x hx => h x (by simp [hx])
    simp only [app, look]
    by_cases he : d = t
    · subst he
      rw [Nat.beq_refl, List.getD_eq_getElem?_getD, List.getElem?_set_self (by rw [app_length]; omega)]
      rfl
    · have : Nat.beq d t = false := by
        cases hb : Nat.beq d t with
        | false => rfl
        | true => exact absurd (Nat.eq_of_beq_eq_true hb) he
      rw [this, List.getD_eq_getElem?_getD, List.getElem?_set_ne he, ← List.getD_eq_getElem?_getD]
      exact ih

def S2.ev (s : S2) : Operand → V
  | .tmp t => look s.upd s.base t
  | .const v => absV v
  | .global g => .im (.pointer (some ⟨g, 0, none⟩))
  | .func f => .fn (.func f) [] []

theorem S2.ev_eq {s : S2} (h : s.Wf) (x : Operand) : s.st.ev x = s.ev x := by
  cases x with
  | tmp t => exact look_eq s.base.length s.base (Nat.le_refl _) t s.upd h.d
  | _ => rfl

def V.isCls : V → Bool
  | .dat _ _ (.cls _) => true
  | _ => false

def S2.hasFl (s : S2) : Bool := s.upd.any (fun x => x.2.isCls) || s.base.any V.isCls

def S2.dem (s : S2) (p : Nat → Bool) : S2 := match s.hasFl with
  | false => s
  | true => match s with | ⟨n, b, u, H, d, c⟩ => ⟨n, b.map (V.demote p), u.map fun x => (x.1, V.demote p x.2), H, d, c⟩

theorem demote_plain {v : V} (h : v.isCls = false) (p : Nat → Bool) : V.demote p v = v := by
  cases v with
  | dat es rows fl => cases fl with
    | cls c => simp [V.isCls] at h
    | _ => rfl
  | _ => rfl

theorem app_map (f : V → V) : ∀ (u : List (Nat × V)) (b : List V), app (u.map fun x => (x.1, f x.2)) (b.map f) = (app u b).map f
  | [], _ => rfl
  | _ :: r, b => by simp [app, app_map f r b, List.map_set]

theorem S2.dem_st {s : S2} (p : Nat → Bool) : (s.dem p).st = { s.st with tmps := s.st.tmps.map (V.demote p) } := by
  unfold S2.dem
  split
  · rename_i h
    unfold S2.hasFl at h
    simp only [Bool.or_eq_false_iff] at h
    obtain ⟨h1, h2⟩ := h
    have hb : s.base.map (V.demote p) = s.base := by
      rw [List.any_eq_false] at h2
      refine (List.map_congr_left fun v hv => demote_plain (by simpa using h2 v hv) p).trans ?_
      simp
    have hu : (s.upd.map fun x => (x.1, V.demote p x.2)) = s.upd := by
      rw [List.any_eq_false] at h1
      refine (List.map_congr_left (g := fun x => x) fun x hx => by rw [demote_plain (by simpa using h1 x hx) p]).trans ?_
      simp
    unfold S2.st
    simp only
    rw [← app_map, hb, hu]
  · simp only [S2.st, app_map]

theorem S2.dem_wf {s : S2} (h : s.Wf) (p : Nat → Bool) : (s.dem p).Wf := by
  unfold S2.dem
  split
  · exact h
  · refine ⟨by simpa using h.n, fun x hx => ?_⟩
    simp only [List.mem_map] at hx
    obtain ⟨y, hy, rfl⟩ := hx
    simpa using h.d y hy

/-! ### the conditions -/
def evLoadCells2 (P : Program) (t : TypeId) (vs : List V) (k : V → Prop) : Prop :=
  match tk P t with
  | some (true, n) => grd (Nat.ble n vs.length) (k (.agg (vs.take n)))
  | some (false, _) => match vs with
    | v :: _ => k v
    | [] => False
  | none => False

theorem evLoadCells2_imp {P : Program} {t : TypeId} {vs : List V} {k : V → Prop} (h : evLoadCells2 P t vs k) : evLoadCells P t vs k := by
  unfold evLoadCells2 at h
  unfold evLoadCells
  cases ht : tk P t with
  | none => simp [ht] at h
  | some x =>
    obtain ⟨b, n⟩ := x
    simp only [ht] at h ⊢
    cases b with
    | true => simpa [grd_iff, Nat.ble_eq] using h
    | false => cases vs <;> exact h

def evLoad2 (P : Program) (t : TypeId) (H : Heap) (k : V → Prop) : V → Prop
  | .ptr id off => match H[id]? with
    | some (some (.cells _ vs)) => evLoadCells2 P t (vs.drop off) k
    | _ => False
  | .rp cs => evLoadCells2 P t cs (fun v => k v.strip)
  | _ => False

theorem evLoad2_imp {P : Program} {t : TypeId} {σ : St} {k : V → Prop} {x : V} (h : evLoad2 P t σ.H k x) : evLoad P t σ k x := by
  cases x with
  | ptr id off =>
    simp only [evLoad2] at h
    simp only [evLoad]
    split at h
    · rename_i hH
      simp only [hH]
      exact evLoadCells2_imp h
    · exact h.elim
  | rp cs => exact evLoadCells2_imp (k := fun v => k v.strip) h
  | _ => exact h.elim

def evStore2 (P : Program) (t : TypeId) (H : Heap) (x : V) (k : Heap → Prop) : V → Prop
  | .ptr id off => match H[id]? with
    | some (some (.cells e vs)) => match x.cellsF, tk P t with
      | some cs, some (_, n) => grd (Nat.beq cs.length n && Nat.ble (off + n) vs.length && cs.all V.solid) (k (H.set id (some (.cells e (setRange vs off cs)))))
      | _, _ => False
    | _ => False
  | _ => False

theorem evStore2_imp {P : Program} {t : TypeId} {σ : St} {v : V} {k : St → Prop} {x : V} (h : evStore2 P t σ.H v (fun H => k { σ with H := H }) x) : evStore P t σ v k x := by
  cases x with
  | ptr id off =>
    simp only [evStore2] at h
    simp only [evStore]
    split at h
    · rename_i hH
      simp only [hH]
      split at h
      · rename_i h1 h2
        simp only [h1, h2]
        rw [grd_iff, Bool.and_eq_true, Bool.and_eq_true, Nat.ble_eq, Nat.beq_eq] at h
        exact ⟨h.1.1.1, h.1.1.2, h.1.2, h.2⟩
      · exact h.elim
    · exact h.elim
  | _ => exact h.elim

/-- Parts that lie one behind the other. -/
def catV (place : Nat → Option (Nat × Nat)) : Nat → List (Nat × V) → Option (List V)
  | _, [] => some []
  | off, (i, v) :: rest => match place i, v.cellsF with
    | some (o, size), some cs => match Nat.beq o off && Nat.beq cs.length size with
      | true => (catV place (off + size) rest).map (cs ++ ·)
      | false => none
    | _, _ => none

theorem catV_spec (place : Nat → Option (Nat × Nat)) : ∀ (parts : List (Nat × V)) (off : Nat) (cells cs : List V), catV place off parts = some cs → off + cs.length ≤ cells.length →
    fillV place cells parts = some (cells.take off ++ cs ++ cells.drop (off + cs.length))
  | [], off, cells, cs, h, hl => by
    simp only [catV, Option.some.injEq] at h
    subst h
    simp [fillV]
  | (i, v) :: rest, off, cells, cs, h, hl => by
    simp only [catV] at h
    split at h
    · rename_i o size cs0 hp hc
      split at h
      · rename_i hb
        rw [Bool.and_eq_true, Nat.beq_eq, Nat.beq_eq] at hb
        obtain ⟨rfl, rfl⟩ := hb
        obtain ⟨cs1, h1, rfl⟩ := Option.map_eq_some_iff.1 h
        simp only [List.length_append] at hl
        have hlen : (setRange cells o cs0).length = cells.length := setRange_length (by omega)
        have ih := catV_spec place rest (o + cs0.length) (setRange cells o cs0) cs1 h1 (by omega)
        unfold fillV
        rw [hp, hc]
        simp only
        rw [if_pos (by simp; omega), ih]
        congr 1
        have hto : (List.take o cells).length = o := by simp; omega
        have h2 : (setRange cells o cs0).take (o + cs0.length) = cells.take o ++ cs0 := by
          unfold setRange
          rw [List.take_append_of_le_length (by simp; omega), List.take_of_length_le (by simp; omega)]
        have h3 : (setRange cells o cs0).drop (o + cs0.length + cs1.length) = cells.drop (o + (cs0.length + cs1.length)) := by
          unfold setRange
          have : o + cs0.length + cs1.length = (List.take o cells ++ cs0).length + cs1.length := by simp [hto]
          rw [this, List.drop_append]
          simp only [List.drop_drop]
          have h4 : (List.take o cells ++ cs0).drop ((List.take o cells ++ cs0).length + cs1.length) = [] := List.drop_of_length_le (by omega)
          rw [h4, List.nil_append]
          congr 1
          omega
        rw [h2, h3]
        simp [List.append_assoc]
      · cases h
    · cases h

def evBuild2 (P : Program) (t : TypeId) (parts : List (Nat × V)) (k : V → Prop) : Prop :=
  match placesOf P t, zeroOf P t with
  | some pl, some z => match catV pl 0 parts with
    | some cs => match Nat.beq cs.length z.length with
      | true => k (.agg cs)
      | false => match fillV pl z parts with
        | some cs => k (.agg cs)
        | none => False
    | none => match fillV pl z parts with
      | some cs => k (.agg cs)
      | none => False
  | _, _ => False

theorem evBuild2_imp {P : Program} {t : TypeId} {parts : List (Nat × V)} {k : V → Prop} (h : evBuild2 P t parts k) : evBuild P t parts k := by
  unfold evBuild2 at h
  unfold evBuild
  split at h
  · rename_i pl z h1 h2
    simp only [h1, h2]
    split at h
    · rename_i cs hc
      split at h
      · rename_i hb
        rw [Nat.beq_eq] at hb
        have := catV_spec pl parts 0 z cs hc (by omega)
        rw [this]
        have hd : z.drop (0 + cs.length) = [] := by rw [hb, Nat.zero_add]; exact List.drop_length
        rw [hd]
        simpa using h
      · exact h
    · exact h
  · exact h.elim

def evBuildSlice2 (P : Program) (t : TypeId) (len : Nat) (parts : List (Nat × V)) (k : V → Prop) : Prop :=
  match slOf P t with
  | some (e, n, _) => match zeroOf P e with
    | some z => grd (Nat.beq z.length n && Nat.ble 1 n && Nat.ble (len * n) (2 ^ 24)) (
      match catV (fun i => some (i * n, n)) 0 parts with
      | some cs => match Nat.beq cs.length (len * n) with
        | true => grd (cs.all V.dataCell) (k (.dat n (chunks n len cs) .tight))
        | false => match fillV (fun i => some (i * n, n)) (List.replicate len z).flatten parts with
          | some cs => grd (cs.all V.dataCell) (k (.dat n (chunks n len cs) .tight))
          | none => False
      | none => match fillV (fun i => some (i * n, n)) (List.replicate len z).flatten parts with
        | some cs => grd (cs.all V.dataCell) (k (.dat n (chunks n len cs) .tight))
        | none => False)
    | none => False
  | none => False

theorem evBuildSlice2_imp {P : Program} {t : TypeId} {len : Nat} {parts : List (Nat × V)} {k : V → Prop} (h : evBuildSlice2 P t len parts k) : evBuildSlice P t len parts k := by
  unfold evBuildSlice2 at h
  unfold evBuildSlice
  split at h
  · rename_i e n b h1
    simp only [h1]
    split at h
    · rename_i z h2
      simp only [h2]
      rw [grd_iff, Bool.and_eq_true, Bool.and_eq_true, Nat.ble_eq, Nat.ble_eq, Nat.beq_eq] at h
      refine ⟨h.1.1.1, h.1.1.2, h.1.2, ?_⟩
      have hz := h.1.1.1
      have h := h.2
      have fin : (match fillV (fun i => some (i * n, n)) (List.replicate len z).flatten parts with
        | some cs => grd (cs.all V.dataCell) (k (.dat n (chunks n len cs) .tight))
        | none => False) → (match fillV (fun i => some (i * n, n)) (List.replicate len z).flatten parts with
        | some cs => cs.all V.dataCell = true ∧ k (.dat n (chunks n len cs) .tight)
        | none => False) := by
        intro h
        split at h
        · rename_i h3
          try simp only [h3]
          exact grd_iff.1 h
        · exact h.elim
      split at h
      · rename_i cs hc
        split at h
        · rename_i hb
          rw [Nat.beq_eq] at hb
          have hlz : (List.replicate len z).flatten.length = len * n := by
            rw [List.length_flatten, List.map_replicate, List.sum_replicate_nat, hz]
          have := catV_spec _ parts 0 (List.replicate len z).flatten cs hc (by rw [hlz]; omega)
          rw [this]
          have hd : (List.replicate len z).flatten.drop (0 + cs.length) = [] := by rw [hb, Nat.zero_add, ← hlz]; exact List.drop_length
          rw [hd]
          simpa [grd_iff] using h
        · exact fin h
      · exact fin h
    · exact h.elim
  · exact h.elim

def kindEq (k k' : IntKind) : Bool := decide (k = k')

/-- Two structs or arrays are held against each other: the walk stops here (the kernel would reckon on where the elaborator is stuck). -/
structure EqT (P : Program) (op : BinOp) (t : TypeId) (xs ys : List V) (K : V → Prop) : Prop where
  out : (!P.eqGuardType P.depth t && aggT P t) = true ∧ match flatEq P 50 t with
    | some ks => match cellsEq ks xs ys, op with
      | some b, .eql => K (.bool b)
      | some b, .neq => K (.bool !b)
      | _, _ => False
    | none => False

theorem EqT.eql {P : Program} {t : TypeId} {xs ys : List V} {K : V → Prop} {ks : List CK} {b : Bool} (h1 : (!P.eqGuardType P.depth t && aggT P t) = true) (h2 : flatEq P 50 t = some ks) (h3 : cellsEq ks xs ys = some b) (h : K (.bool b)) : EqT P .eql t xs ys K :=
  ⟨h1, by rw [h2]; simp only; rw [h3]; exact h⟩
theorem EqT.neq {P : Program} {t : TypeId} {xs ys : List V} {K : V → Prop} {ks : List CK} {b : Bool} (h1 : (!P.eqGuardType P.depth t && aggT P t) = true) (h2 : flatEq P 50 t = some ks) (h3 : cellsEq ks xs ys = some b) (h : K (.bool !b)) : EqT P .neq t xs ys K :=
  ⟨h1, by rw [h2]; simp only; rw [h3]; exact h⟩

def evBin2 (P : Program) (op : BinOp) (t : TypeId) (x y : V) (K : V → Prop) : Prop :=
  match x, y with
  | .im (.int k a), .im (.int k' b) =>
    match op with
    | .shl => 0 ≤ b ∧ K (.int k (k.wrap (a * 2 ^ min b.toNat k.bits)))
    | .shr => 0 ≤ b ∧ K (.int k (a.fdiv (2 ^ min b.toNat k.bits)))
    | _ => grd (kindEq k k') (evInt op k a b K)
  | .im (.bool a), .im (.bool b) => match P.underlying t, op with
    | some .bool, .eql => K (.bool (a == b))
    | some .bool, .neq => K (.bool (a != b))
    | _, _ => False
  | .str a, .str b => evStr op a b K
  | .agg xs, .agg ys => EqT P op t xs ys K
  | _, _ => False

theorem evBin2_imp {P : Program} {op : BinOp} {t : TypeId} {x y : V} {K : V → Prop} (h : evBin2 P op t x y K) : evBin P op t x y K := by
  unfold evBin2 at h
  unfold evBin
  split at h
  · split at h
    · exact h
    · exact h
    · rename_i h1 h2
      rw [grd_iff] at h
      have := h.1
      simp only [kindEq, decide_eq_true_eq] at this
      have h2' := h.2
      cases op <;> first | exact (h1 rfl).elim | exact (h2 rfl).elim | exact ⟨this, h2'⟩
  · split at h
    · rename_i hu; exact ⟨hu, h⟩
    · rename_i hu; exact ⟨hu, h⟩
    · exact h.elim
  · exact h
  · have h := h.out
    rw [Bool.and_eq_true] at h
    obtain ⟨⟨h1, h2⟩, h3⟩ := h
    refine ⟨by simpa using h1, ?_⟩
    split at h3
    · rename_i ks hk
      simp only [hk]
      refine ⟨h2, ?_⟩
      split at h3
      · rename_i b hc; simp only [hc]; exact h3
      · rename_i b hc; simp only [hc]; exact h3
      · exact h3.elim
    · exact h3.elim
  · exact h.elim

def evField2 (P : Program) (t : TypeId) (f : Nat) (K : V → Prop) : V → Prop
  | .agg cs => match fieldOf P t f with
    | some (off, ft) => evLoadCells2 P ft (cs.drop off) (fun v => K v.strip)
    | none => False
  | _ => False
theorem evField2_imp {P : Program} {t : TypeId} {f : Nat} {K : V → Prop} {x : V} (h : evField2 P t f K x) : evField P t f K x := by
  cases x with
  | agg cs =>
    simp only [evField2] at h
    simp only [evField]
    split at h
    · rename_i h1
      simp only [h1]
      exact evLoadCells2_imp h
    · exact h.elim
  | _ => exact h.elim

def evFieldAddr2 (P : Program) (t : TypeId) (f : Nat) (K : V → Prop) (x : V) : Prop :=
  match fieldOf P t f with
  | some (fo, ft) => match tk P ft with
    | some (_, n) => grd (Nat.ble 1 n) (match x with
      | .ptr id off => K (.ptr id (off + fo))
      | .rp cs => K (.rp (cs.drop fo))
      | _ => False)
    | none => False
  | none => False
theorem evFieldAddr2_imp {P : Program} {t : TypeId} {f : Nat} {K : V → Prop} {x : V} (h : evFieldAddr2 P t f K x) : evFieldAddr P t f K x := by
  unfold evFieldAddr2 at h
  unfold evFieldAddr
  split at h
  · rename_i h1
    simp only [h1]
    split at h
    · rename_i h2
      simp only [h2]
      rw [grd_iff, Nat.ble_eq] at h
      refine ⟨h.1, ?_⟩
      have h := h.2
      cases x <;> exact h
    · exact h.elim
  · exact h.elim

def optK {α : Type} (o : Option α) (K : α → Prop) : Prop := match o with
  | some b => K b
  | none => False
theorem optK_intro {α : Type} {o : Option α} {K : α → Prop} {b : α} (h : o = some b) (hk : K b) : optK o K := by
  rw [h]; exact hk
theorem optK_elim {α : Type} {o : Option α} {K : α → Prop} (h : optK o K) : ∃ b, o = some b ∧ K b := by
  cases o with
  | none => exact h.elim
  | some b => exact ⟨b, rfl, h⟩

def evIndex2 (P : Program) (t : TypeId) (x i : V) (K : V → Prop) : Prop :=
  match x, i with
  | .agg cs, .im (.int _ n) => match arrOf P t with
    | some (len, e, s) => grd (decide (0 ≤ n) && decide (n < len)) (evLoadCells2 P e (cs.drop (n.toNat * s)) (fun v => K v.strip))
    | none => False
  | .str l, .im (.int _ n) => match P.underlying t with
    | some .string => grd (decide (0 ≤ n)) (optK l[n.toNat]? fun b => K (.int .u8 b.toNat))
    | _ => False
  | _, _ => False
theorem evIndex2_imp {P : Program} {t : TypeId} {x i : V} {K : V → Prop} (h : evIndex2 P t x i K) : evIndex P t x i K := by
  unfold evIndex2 at h
  unfold evIndex
  split at h
  · split at h
    · rename_i h1
      simp only [h1]
      rw [grd_iff, Bool.and_eq_true, decide_eq_true_eq, decide_eq_true_eq] at h
      exact ⟨h.1.1, h.1.2, evLoadCells2_imp h.2⟩
    · exact h.elim
  · split at h
    · rename_i h1
      rw [grd_iff, decide_eq_true_eq] at h
      refine ⟨h1, h.1, ?_⟩
      exact optK_elim h.2
    · exact h.elim
  · exact h.elim

def evIndexAddr2 (P : Program) (t : TypeId) (x i : V) (K : V → Prop) : Prop :=
  match i with
  | .im (.int _ n) => match slOf P t, arrOf P t with
    | some (_, s, _), _ => match x with
      | .dat es rows _ => grd (Nat.beq es s && Nat.ble 1 s && decide (0 ≤ n)) (optK rows[n.toNat]? fun r => K (.rp r))
      | .arr id es len => grd (Nat.beq es s && decide (0 ≤ n) && decide (n < len)) (K (.ptr id (n.toNat * s)))
      | _ => False
    | none, some (len, _, s) => match x with
      | .ptr id off => grd (decide (0 ≤ n) && decide (n < len)) (K (.ptr id (off + n.toNat * s)))
      | .rp cs => grd (decide (0 ≤ n) && decide (n < len)) (K (.rp (cs.drop (n.toNat * s))))
      | _ => False
    | _, _ => False
  | _ => False
theorem evIndexAddr2_imp {P : Program} {t : TypeId} {x i : V} {K : V → Prop} (h : evIndexAddr2 P t x i K) : evIndexAddr P t x i K := by
  unfold evIndexAddr2 at h
  unfold evIndexAddr
  split at h
  · split at h
    · rename_i h1
      simp only [h1]
      split at h
      · rw [grd_iff, Bool.and_eq_true, Bool.and_eq_true, Nat.ble_eq, Nat.beq_eq, decide_eq_true_eq] at h
        exact ⟨h.1.1.1, h.1.1.2, h.1.2, optK_elim h.2⟩
      · rw [grd_iff, Bool.and_eq_true, Bool.and_eq_true, Nat.beq_eq, decide_eq_true_eq, decide_eq_true_eq] at h
        exact ⟨h.1.1.1, h.1.1.2, h.1.2, h.2⟩
      · exact h.elim
    · rename_i h1 h2
      simp only [h1, h2]
      split at h
      · rw [grd_iff, Bool.and_eq_true, decide_eq_true_eq, decide_eq_true_eq] at h
        exact ⟨h.1.1, h.1.2, h.2⟩
      · rw [grd_iff, Bool.and_eq_true, decide_eq_true_eq, decide_eq_true_eq] at h
        exact ⟨h.1.1, h.1.2, h.2⟩
      · exact h.elim
    · exact h.elim
  · exact h.elim

def evLen2 (P : Program) (t : TypeId) (x : V) (K : V → Prop) : Prop :=
  match x with
  | .str l => match P.underlying t with
    | some .string => K (.int .i64 l.length)
    | _ => False
  | .dat _ rows _ => grd (slOf P t).isSome (K (.int .i64 rows.length))
  | .arr _ _ len => grd (slOf P t).isSome (K (.int .i64 len))
  | _ => False
theorem evLen2_imp {P : Program} {t : TypeId} {x : V} {K : V → Prop} (h : evLen2 P t x K) : evLen P t x K := by
  unfold evLen2 at h
  unfold evLen
  split at h
  · split at h
    · rename_i hu; exact ⟨hu, h⟩
    · exact h.elim
  · exact grd_iff.1 h
  · exact grd_iff.1 h
  · exact h.elim

end Go.Abs
