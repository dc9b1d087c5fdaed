/- '==' on structs and arrays, cell by cell. -/
import Derived.Test.YteklnflddoekfaaDoorAbsSound5
import Derived.Laws.StructEq
import Derived.ChangeKeysEq
namespace Go.Abs
open Go.RowKit

variable {P : Program} {G : Nat → Option (List V)}

def valEq : CK → Value → Value → Option Bool
  | .i, .int k a, .int k' b => if k = k' then some (a == b) else none
  | .b, .bool a, .bool b => some (a == b)
  | .s, .string a, .string b => some (a.toList == b.toList)
  | _, _, _ => none
def valsEq : List CK → List Value → List Value → Option Bool
  | [], [], [] => some true
  | k :: ks, x :: xs, y :: ys => match valEq k x y, valsEq ks xs ys with
    | some a, some b => some (a && b)
    | _, _ => none
  | _, _, _ => none

theorem valsEq_of {w : World} {e : Env} : ∀ (ks : List CK) (xs ys : List V) (us vs : List Value) (b : Bool), xs.length = us.length → ys.length = vs.length →
    (∀ (i : Nat) (v : V) (u : Value), xs[i]? = some v → us[i]? = some u → Rep w e v u) → (∀ (i : Nat) (v : V) (u : Value), ys[i]? = some v → vs[i]? = some u → Rep w e v u) →
    cellsEq ks xs ys = some b → valsEq ks us vs = some b := by
  intro ks
  induction ks with
  | nil =>
    intro xs ys us vs b h1 h2 _ _ h
    match xs, ys, h with
    | [], [], h =>
      match us, vs, h1, h2 with
      | [], [], _, _ => exact h
  | cons k ks ih =>
    intro xs ys us vs b h1 h2 hx hy h
    match xs, ys, h with
    | x :: xs, y :: ys, h =>
      match us, vs, h1, h2 with
      | u :: us, v :: vs, h1, h2 =>
        have r1 := hx 0 x u rfl rfl
        have r2 := hy 0 y v rfl rfl
        simp only [cellsEq] at h
        split at h
        · rename_i a b' ha hb
          have hb2 := ih xs ys us vs b' (by simpa using h1) (by simpa using h2) (fun i v u hv hu => hx (i + 1) v u (by simpa using hv) (by simpa using hu))
            (fun i v u hv hu => hy (i + 1) v u (by simpa using hv) (by simpa using hu)) hb
          have hbd : ∀ a b : Int, (a == b) = decide (a = b) := fun a b => by rw [Bool.eq_iff_iff]; simp
          have hbl : ∀ a b : List UInt8, (a == b) = decide (a = b) := fun a b => by rw [Bool.eq_iff_iff]; simp
          have ha2 : valEq k u v = some a := by
            unfold cellEq at ha
            split at ha
            · cases r1; cases r2
              simp only [valEq, hbd]
              exact ha
            · cases r1; cases r2
              exact ha
            · cases r1; cases r2
              simp only [valEq, ba_toList, hbl]
              exact ha
            · cases ha
          simp only [valsEq, ha2, hb2]
          exact h
        · cases h

theorem valsEq_length : ∀ (ks : List CK) (a b : List Value) (r : Bool), valsEq ks a b = some r → a.length = ks.length ∧ b.length = ks.length := by
  intro ks
  induction ks with
  | nil => intro a b r h; match a, b, h with
    | [], [], _ => exact ⟨rfl, rfl⟩
  | cons k ks ih => intro a b r h; match a, b, h with
    | x :: a, y :: b, h =>
      simp only [valsEq] at h
      split at h
      · rename_i p q hp hq
        obtain ⟨h1, h2⟩ := ih a b q hq
        exact ⟨by simp [h1], by simp [h2]⟩
      · cases h

theorem valsEq_append : ∀ (ks ks' : List CK) (a b : List Value) (r : Bool), valsEq (ks ++ ks') a b = some r →
    ∃ r1 r2, valsEq ks (a.take ks.length) (b.take ks.length) = some r1 ∧ valsEq ks' (a.drop ks.length) (b.drop ks.length) = some r2 ∧ r = (r1 && r2) := by
  intro ks
  induction ks with
  | nil => intro ks' a b r h; exact ⟨true, r, rfl, h, by simp⟩
  | cons k ks ih =>
    intro ks' a b r h
    match a, b, h with
    | x :: a, y :: b, h =>
      simp only [List.cons_append, valsEq] at h
      split at h
      · rename_i p q hp hq
        obtain ⟨r1, r2, e1, e2, rfl⟩ := ih ks' a b q hq
        simp only [Option.some.injEq] at h
        exact ⟨p && r1, r2, by simp [valsEq, hp, e1], by simpa using e2, by rw [← h, Bool.and_assoc]⟩
      · cases h

/-- The value of a type whose cells these are. -/
def mkV (P : Program) (t : TypeId) (us : List Value) : Value :=
  match P.underlying t with
  | some (.struct _) | some (.array ..) => .agg us.toArray
  | _ => us.getD 0 undef

/-- Is it a struct or an array? -/
def aggD : Option TypeDesc → Bool
  | some (.struct _) | some (.array ..) => true
  | _ => false

theorem run_part {t : TypeId} {i : TypeInfo} (hi : P.info? t = some i) (hu : (P.underlying t).isSome) (xs : Array Value) (off : Nat) (hl : off + i.size ≤ xs.size) (h1 : aggD (P.underlying t) = false → i.size = 1) (w : World) :
    (part t xs off).run P w = .ok (mkV P t ((xs.toList.drop off).take i.size)) w := by
  obtain ⟨d, hd⟩ := Option.isSome_iff_exists.1 hu
  unfold part mkV
  have hagg : (isAgg t).run P w = .ok (aggD (some d)) w := by
    unfold isAgg
    rw [Sem.run_bind, run_underlying' hd]
    cases d <;> rfl
  rw [Sem.run_bind, hagg, hd]
  simp only [Result.andThen]
  cases d
  case struct fs =>
    simp only [aggD, if_true]
    rw [Sem.run_bind, run_sizeOf' hi]
    simp only [Result.andThen]
    have hx : xs.extract off (off + i.size) = (List.take i.size (List.drop off xs.toList)).toArray := by
      apply Array.toList_inj.1
      rw [Array.toList_extract]
      simp [List.extract]
    rw [hx]
    rfl
  case array n el =>
    simp only [aggD, if_true]
    rw [Sem.run_bind, run_sizeOf' hi]
    simp only [Result.andThen]
    have hx : xs.extract off (off + i.size) = (List.take i.size (List.drop off xs.toList)).toArray := by
      apply Array.toList_inj.1
      rw [Array.toList_extract]
      simp [List.extract]
    rw [hx]
    rfl
  all_goals
    have h1' := h1 (by rw [hd]; rfl)
    have hlt : off < xs.size := by omega
    simp only [aggD, Bool.false_eq_true, if_false, Array.getElem?_eq_getElem hlt, h1']
    have : ((xs.toList.drop off).take 1).getD 0 undef = xs[off] := by
      simp [hlt]
    rw [this]
    rfl


theorem mkV_plain {t : TypeId} {d : TypeDesc} (hd : P.underlying t = some d) (hp : aggD (some d) = false) (u : Value) : mkV P t [u] = u := by
  unfold mkV
  rw [hd]
  cases d <;> first | rfl | simp [aggD] at hp

/-- What is asked of the parts. -/
def EqOk (P : Program) (d : Nat) (t : TypeId) (ks : List CK) : Prop :=
  ∀ (us vs : List Value) (b : Bool) (w : World), valsEq ks us vs = some b → (Op.equalIn d t (mkV P t us) (mkV P t vs)).run P w = .ok b w

theorem take_append_take {α : Type} (l : List α) (a b : Nat) : (l.take (a + b)).take a = l.take a := by
  rw [List.take_take, Nat.min_eq_left (by omega)]

theorem run_eqItems {d : Nat} {el : TypeId} {kk : List CK} {i : TypeInfo} (hi : P.info? el = some i) (hu : (P.underlying el).isSome) (hsz : i.size = kk.length) (hm0 : 1 ≤ kk.length) (h1 : aggD (P.underlying el) = false → kk.length = 1)
    (IH : EqOk P d el kk) (us vs : Array Value) (n : Nat) : ∀ (s : Nat) (b : Bool) (w : World), valsEq (List.replicate n kk).flatten (us.toList.drop (s * kk.length)) (vs.toList.drop (s * kk.length)) = some b →
    (Op.eqItems d el kk.length us vs (List.range' s n)).run P w = .ok b w := by
  induction n with
  | zero =>
    intro s b w h
    obtain ⟨h2, h3⟩ := valsEq_length _ _ _ _ h
    simp only [List.replicate_zero, List.flatten_nil, List.length_nil] at h2 h3 h
    rw [List.eq_nil_of_length_eq_zero h2, List.eq_nil_of_length_eq_zero h3] at h
    simp only [valsEq, Option.some.injEq] at h
    subst h
    rfl
  | succ n ih =>
    intro s b w h
    obtain ⟨hl1, hl2⟩ := valsEq_length _ _ _ _ h
    rw [List.replicate_succ, List.flatten_cons] at h hl1 hl2
    obtain ⟨r1, r2, e1, e2, rfl⟩ := valsEq_append _ _ _ _ _ h
    simp only [List.length_drop, List.length_append, Array.length_toList] at hl1 hl2
    rw [List.drop_drop, List.drop_drop, show s * kk.length + kk.length = (s + 1) * kk.length by rw [Nat.succ_mul]] at e2
    have hr := ih (s + 1) r2
    rw [List.range'_succ]
    simp only [Op.eqItems]
    have hle : ∀ xs : Array Value, xs.size - s * kk.length = kk.length + (List.replicate n kk).flatten.length → 0 < kk.length → s * kk.length + i.size ≤ xs.size := fun xs h h0 => by omega
    have hp : ∀ xs : Array Value, xs.size - s * kk.length = kk.length + (List.replicate n kk).flatten.length → (part el xs (s * kk.length)).run P w = .ok (mkV P el ((xs.toList.drop (s * kk.length)).take kk.length)) w := by
      intro xs hx
      have := run_part hi hu xs (s * kk.length) (hle xs hx (by omega)) (fun h => by rw [hsz]; exact h1 h) w
      rwa [hsz] at this
    rw [Sem.run_bind, hp us hl1]
    simp only [Result.andThen]
    rw [Sem.run_bind, hp vs hl2]
    simp only [Result.andThen]
    rw [Sem.run_bind, IH _ _ r1 w e1]
    simp only [Result.andThen]
    cases r1
    · simp
    · simpa using hr w e2

theorem fold_none (F : TypeId → Option (List CK)) (fs : List Field) : fs.foldl (fun acc f => match acc, F f.type with
          | some n, some m => if f.name ≠ "_" ∧ f.offset = n.length ∧ 1 ≤ m.length ∧ (P.info? f.type).map (·.size) = some m.length then some (n ++ m) else none
          | _, _ => none) none = none := by
  induction fs with
  | nil => rfl
  | cons f fs ih => simpa using ih

theorem run_eqFields' {d : Nat} (F : TypeId → Option (List CK)) (IH : ∀ t ks, F t = some ks → EqOk P d t ks ∧ (P.underlying t).isSome ∧ (aggD (P.underlying t) = false → ks.length = 1)) (us vs : Array Value) (fs : List Field) :
    ∀ (ks0 ks : List CK), fs.foldl (fun acc f => match acc, F f.type with
          | some n, some m => if f.name ≠ "_" ∧ f.offset = n.length ∧ 1 ≤ m.length ∧ (P.info? f.type).map (·.size) = some m.length then some (n ++ m) else none
          | _, _ => none) (some ks0) = some ks →
    ∃ ks1, ks = ks0 ++ ks1 ∧ ∀ (b : Bool) (w : World), valsEq ks1 (us.toList.drop ks0.length) (vs.toList.drop ks0.length) = some b → (Op.eqFields d us vs fs).run P w = .ok b w := by
  induction fs with
  | nil =>
    intro ks0 ks h
    simp only [List.foldl_nil, Option.some.injEq] at h
    refine ⟨[], by simp [h], fun b w he => ?_⟩
    obtain ⟨h2, h3⟩ := valsEq_length _ _ _ _ he
    rw [List.eq_nil_of_length_eq_zero h2, List.eq_nil_of_length_eq_zero h3] at he
    simp only [valsEq, Option.some.injEq] at he
    subst he
    rfl
  | cons f fs ih =>
    intro ks0 ks h
    rw [List.foldl_cons] at h
    cases hF : F f.type with
    | none =>
      rw [hF] at h
      simp only at h
      rw [fold_none] at h
      cases h
    | some m =>
      rw [hF] at h
      simp only at h
      by_cases hc : f.name ≠ "_" ∧ f.offset = ks0.length ∧ 1 ≤ m.length ∧ (P.info? f.type).map (·.size) = some m.length
      · rw [if_pos hc] at h
        obtain ⟨hn, hoff, hm0, hs⟩ := hc
        obtain ⟨i, hi, hsz⟩ := Option.map_eq_some_iff.1 hs
        obtain ⟨ks1, rfl, hrest⟩ := ih _ _ h
        obtain ⟨hok, hu, h1⟩ := IH _ _ hF
        refine ⟨m ++ ks1, by simp, fun b w he => ?_⟩
        obtain ⟨hl1, hl2⟩ := valsEq_length _ _ _ _ he
        obtain ⟨r1, r2, e1, e2, rfl⟩ := valsEq_append _ _ _ _ _ he
        simp only [List.length_drop, List.length_append, Array.length_toList] at hl1 hl2
        rw [List.drop_drop, List.drop_drop, ← List.length_append] at e2
        have hr := hrest r2
        simp only [Op.eqFields]
        rw [if_pos hn, hoff]
        have hp : ∀ xs : Array Value, xs.size - ks0.length = m.length + ks1.length → (part f.type xs ks0.length).run P w = .ok (mkV P f.type ((xs.toList.drop ks0.length).take m.length)) w := by
          intro xs hx
          have := run_part hi hu xs ks0.length (by omega) (fun h => by rw [hsz]; exact h1 h) w
          rwa [hsz] at this
        rw [Sem.run_bind, hp us hl1]
        simp only [Result.andThen]
        rw [Sem.run_bind, hp vs hl2]
        simp only [Result.andThen]
        rw [Sem.run_bind, hok _ _ r1 w e1]
        simp only [Result.andThen]
        cases r1
        · simp
        · simpa using hr w e2
      · rw [if_neg hc, fold_none] at h
        cases h

theorem flatEq_under {m : Nat} {t : TypeId} {ks : List CK} (h : flatEq P m t = some ks) : (P.underlying t).isSome := by
  cases m with
  | zero => simp [flatEq] at h
  | succ m =>
    unfold flatEq at h
    cases hd : P.underlying t with
    | none => simp [hd] at h
    | some _ => rfl

theorem one_of_plain {m : Nat} {t : TypeId} {ks : List CK} (h : flatEq P m t = some ks) (hh : aggD (P.underlying t) = false) : ks.length = 1 := by
  cases m with
  | zero => simp [flatEq] at h
  | succ m =>
    obtain ⟨td, htd⟩ := Option.isSome_iff_exists.1 (flatEq_under h)
    unfold flatEq at h
    rw [htd] at h hh
    cases td <;> simp [aggD] at hh h <;> rw [← h] <;> rfl

theorem run_flatEq (m : Nat) : ∀ (d : Nat) (t : TypeId) (ks : List CK), flatEq P m t = some ks → ∀ (us vs : List Value) (b : Bool) (w : World), valsEq ks us vs = some b →
    (Op.equalIn (d + m) t (mkV P t us) (mkV P t vs)).run P w = .ok b w ∧ (aggD (P.underlying t) = false → ks.length = 1) := by
  induction m with
  | zero => intro d t n h; simp [flatEq] at h
  | succ m ih =>
    intro d t ks h us vs b w he
    obtain ⟨hu, hv⟩ := valsEq_length _ _ _ _ he
    have plain : ∀ k, ks = [k] → ∃ u v, us = [u] ∧ vs = [v] ∧ valEq k u v = some b := by
      intro k h1
      subst h1
      match us, hu, vs, hv with
      | [u], _, [v], _ =>
        refine ⟨u, v, rfl, rfl, ?_⟩
        simp only [valsEq] at he
        split at he
        · rename_i a b' ha hb
          simp only [Option.some.injEq] at hb he
          rw [ha, ← he, ← hb, Bool.and_true]
        · cases he
    unfold flatEq at h
    cases hd : P.underlying t with
    | none => simp [hd] at h
    | some td =>
      rw [hd] at h
      cases td <;> simp only [Option.some.injEq, reduceCtorEq] at h
      case bool =>
        obtain ⟨u, v, rfl, rfl, hval⟩ := plain _ h.symm
        rw [mkV_plain hd rfl, mkV_plain hd rfl]
        cases u <;> cases v <;> simp only [valEq, Option.some.injEq, reduceCtorEq] at hval
        exact ⟨hval ▸ run_equalIn_bool' w (d + m) t _ _ hd, fun _ => by rw [← h]; rfl⟩
      case int k =>
        obtain ⟨u, v, rfl, rfl, hval⟩ := plain _ h.symm
        rw [mkV_plain hd rfl, mkV_plain hd rfl]
        cases u <;> cases v <;> simp only [valEq, reduceCtorEq] at hval
        split at hval
        · rename_i hk
          simp only [Option.some.injEq] at hval
          subst hk
          exact ⟨hval ▸ run_equalIn_int w (d + m) t _ _ _ _ hd, fun _ => by rw [← h]; rfl⟩
        · cases hval
      case string =>
        obtain ⟨u, v, rfl, rfl, hval⟩ := plain _ h.symm
        rw [mkV_plain hd rfl, mkV_plain hd rfl]
        cases u <;> cases v <;> simp only [valEq, Option.some.injEq, reduceCtorEq] at hval
        exact ⟨hval ▸ run_equalIn_string w (d + m) t _ _ hd, fun _ => by rw [← h]; rfl⟩
      case array k el =>
        refine ⟨?_, fun h => by simp [aggD] at h⟩
        obtain ⟨kk, hkk, h⟩ := Option.bind_eq_some_iff.1 h
        split at h
        · rename_i hsz
          obtain ⟨hm0, hsz⟩ := hsz
          obtain ⟨i, hi, hsz⟩ := Option.map_eq_some_iff.1 hsz
          simp only [Option.some.injEq] at h
          subst h
          have e1 : mkV P t us = .agg us.toArray := by simp [mkV, hd]
          have e2 : mkV P t vs = .agg vs.toArray := by simp [mkV, hd]
          rw [e1, e2, show d + (m + 1) = d + m + 1 from rfl, run_equalIn_array w (d + m) _ _ hd hi]
          have hco : P.cellsOf el = kk.length := by
            unfold Program.cellsOf; rw [hi]; exact hsz
          rw [hco]
          have hih := fun us vs b w he => (ih d el kk hkk us vs b w he).1
          have h1 := fun hh => one_of_plain hkk hh
          have := run_eqItems hi (flatEq_under hkk) hsz hm0 h1 hih us.toArray vs.toArray k 0 b w (by simpa using he)
          rw [List.range_eq_range']
          exact this
        · cases h
      case struct fs =>
        refine ⟨?_, fun h => by simp [aggD] at h⟩
        split at h
        · cases h
        · rename_i hst
          have e1 : mkV P t us = .agg us.toArray := by simp [mkV, hd]
          have e2 : mkV P t vs = .agg vs.toArray := by simp [mkV, hd]
          have hfs : P.fieldsOf t = fs := by simp [Program.fieldsOf, hd]
          rw [e1, e2, show d + (m + 1) = d + m + 1 from rfl, run_equalIn_struct w (d + m) t _ _ (by rw [hfs]; exact hd) (by simpa using hst), hfs]
          obtain ⟨ks1, rfl, hrun⟩ := run_eqFields' (P := P) (d := d + m) (flatEq P m) (fun t' ks' hF => ⟨fun us vs b w he => (ih d t' ks' hF us vs b w he).1, flatEq_under hF, fun hh => one_of_plain hF hh⟩) us.toArray vs.toArray fs.toList [] ks h
          exact hrun b w (by simpa using he)

end Go.Abs
