/- The operations that neither call nor append: what the generator says of them is so. -/
import Derived.Test.YteklnflddoekfaaDoorAbsEv
namespace Go.Abs
open Go.RowKit

variable {P : Program} {G : Nat → Option (List V)}

theorem rep_absV (w : World) (e : Env) (v : Value) : RepF w e (absV v) v := by
  unfold absV
  split
  · exact ⟨.str _, trivial⟩
  · exact ⟨.nil _ _, trivial⟩
  · exact ⟨.im _, trivial⟩

theorem RepF.bad (w : World) (e : Env) (u : Value) : RepF w e .bad u := ⟨Rep.bad u, trivial⟩

theorem RSt.ev {σ : St} {a : Act} {w : World} {e : Env} (h : RSt G σ a w e) (x : Operand) : RepF w e (σ.ev x) (a.eval x) := by
  cases x with
  | tmp t =>
    show RepF w e (σ.tmps.getD t .bad) (a.tmps.getD t undef)
    by_cases ht : t < σ.tmps.length
    · have hl := h.tmps.1
      have ht' : t < a.tmps.size := by simpa [hl] using ht
      refine h.tmps.2 t _ _ ?_ ?_
      · rw [List.getD_eq_getElem?_getD, List.getElem?_eq_getElem ht]; rfl
      · simp [Array.getD, ht']
    · rw [List.getD_eq_getElem?_getD, List.getElem?_eq_none (Nat.le_of_not_lt ht)]
      exact ⟨.bad _, trivial⟩
  | const v => exact rep_absV w e v
  | global g => exact ⟨.im _, trivial⟩
  | func f => exact ⟨.fn _ _ _ _ _ rfl rfl (fun i v u h => by simp at h) (fun i v u h => by simp at h), trivial⟩

theorem Rep.of_F {w : World} {e : Env} {v : V} {u : Value} (h : RepF w e v u) : Rep w e v u := h.1

theorem rep_demote {w : World} {e : Env} {v : V} {u : Value} (p : Nat → Bool) (h : Rep w e v u) : Rep w e (V.demote p v) u := by
  cases h with
  | dat es rows fl b o cap u hes hcap ht h1 h2 =>
    cases fl with
    | cls c =>
      simp only [V.demote]
      split
      · exact .dat es rows _ b o cap u hes hcap (by simp) h1 h2
      · exact .dat es rows _ b o cap u hes hcap (by simp) h1 h2
    | no => exact .dat es rows _ b o cap u hes hcap ht h1 h2
    | tight => exact .dat es rows _ b o cap u hes hcap ht h1 h2
  | nil es fl => cases fl <;> simp only [V.demote] <;> first | exact .nil _ _ | (split <;> exact .nil _ _)
  | im => exact .im _
  | str l => exact .str l
  | ptr id off hid => exact .ptr id off hid
  | rp cs b o u h1 h2 => exact .rp cs b o u h1 h2
  | arr id es len cap hid h => exact .arr id es len cap hid h
  | fn f first caps first' caps' hl1 hl2 h1 h2 => exact .fn f first caps first' caps' hl1 hl2 h1 h2
  | mp id hid => exact .mp id hid
  | yld id hid => exact .yld id hid
  | agg cs us hl h => exact .agg cs us hl h
  | tup cs us hl h => exact .tup cs us hl h
  | bad => exact .bad _

theorem flagOk_demote {e : Env} {v : V} {u : Value} (p : Nat → Bool) (h : FlagOk e v u) : FlagOk e (V.demote p v) u := by
  cases v with
  | dat es rows fl =>
    cases fl with
    | cls c =>
      simp only [V.demote]
      split
      · simp [FlagOk]
      · exact h
    | no => exact h
    | tight => exact h
  | _ => exact h

theorem RepF.demote {w : World} {e : Env} {v : V} {u : Value} (p : Nat → Bool) (h : RepF w e v u) : RepF w e (V.demote p v) u := ⟨rep_demote p h.1, flagOk_demote p h.2⟩

theorem strip_eq (v : V) : v.strip = V.demote (fun _ => true) v := by
  cases v with
  | dat es rows fl => cases fl <;> rfl
  | _ => rfl

theorem flagOk_strip (e : Env) (v : V) (u : Value) : FlagOk e v.strip u := by
  cases v with
  | dat es rows fl => cases fl <;> simp [V.strip, FlagOk]
  | _ => simp [V.strip, FlagOk]

theorem Rep.strip {w : World} {e : Env} {v : V} {u : Value} (h : Rep w e v u) : RepF w e v.strip u := ⟨by rw [strip_eq]; exact rep_demote _ h, flagOk_strip e v u⟩

/-- What an operation comes to. -/
def OpDone (P : Program) (G : Nat → Option (List V)) (o : Oper) (σ : St) (a : Act) (w : World) (e : Env) (k : V → St → Prop) : Prop :=
  ∃ u w' v σ' e', ((execOp a.eval o).run P w = .ok (.value u) w' ∨ ((execOp a.eval o).run P w = .ok .skip w' ∧ u = undef)) ∧ k v σ' ∧ σ'.cur = σ.cur ∧
    RSt G σ' a w' e' ∧ RepF w' e' v u ∧ Ext σ.H w e σ'.H w' e'

theorem opDone_pure {o : Oper} {σ : St} {a : Act} {w : World} {e : Env} {k : V → St → Prop} (h : RSt G σ a w e) {u : Value} {v : V}
    (hr : (execOp a.eval o).run P w = .ok (.value u) w) (hk : k v σ) (hv : RepF w e v u) : OpDone P G o σ a w e k :=
  ⟨u, w, v, σ, e, .inl hr, hk, rfl, h, hv, .refl _ _ _⟩

/-! ### runs -/
theorem run_value {s : Sem Value} {w w' : World} {u : Value} (h : s.run P w = .ok u w') : Sem.run P (do pure (Next.value (← s))) w = .ok (.value u) w' := by
  show Sem.run P (s.bind _) w = _
  rw [show (s.bind fun x => (pure (Next.value x) : Sem Next)) = (s >>= fun x => pure (Next.value x)) from rfl, Sem.run_bind, h]
  rfl

theorem run_underlying' {t : TypeId} {d : TypeDesc} (h : P.underlying t = some d) (w : World) : (underlying t).run P w = .ok d w := by
  simp [underlying, program, Sem.run_bind, Sem.run, h, Result.andThen]

theorem run_typeInfo' {t : TypeId} {i : TypeInfo} (h : P.info? t = some i) (w : World) : (typeInfo t).run P w = .ok i w := by
  simp [typeInfo, program, Sem.run_bind, Sem.run, h, Result.andThen]

theorem tk_some {t : TypeId} {b : Bool} {n : Nat} (h : tk P t = some (b, n)) (w : World) : (isAgg t).run P w = .ok b w ∧ (sizeOf t).run P w = .ok n w := by
  unfold tk at h
  cases hd : P.underlying t with
  | none => simp [hd] at h
  | some d =>
    cases hi : P.info? t with
    | none => cases d <;> simp [hd, hi] at h
    | some i =>
      have h2 : (sizeOf t).run P w = .ok i.size w := by
        unfold sizeOf
        rw [Sem.run_bind, run_typeInfo' hi]
        rfl
      refine ⟨?_, ?_⟩
      · unfold isAgg
        rw [Sem.run_bind, run_underlying' hd]
        cases d <;> simp [hd, hi] at h <;> (obtain ⟨rfl, _⟩ := h; rfl)
      · rw [h2]
        cases d <;> simp [hd, hi] at h <;> (obtain ⟨_, rfl⟩ := h; rfl)


/-! ### loads -/
theorem run_load_cel {b o : Nat} {w : World} {u : Value} (h : cel w b o = some u) : (load ⟨b, o, none⟩).run P w = .ok u w := by
  unfold cel at h
  simp [load, Sem.run, h]

theorem add_zero' (b o : Nat) : (⟨b, o, none⟩ : Addr).add 0 = ⟨b, o, none⟩ := rfl
theorem addr_add (b o n : Nat) : (⟨b, o, none⟩ : Addr).add n = ⟨b, o + n, none⟩ := by
  unfold Addr.add
  split
  · subst_vars; rfl
  · rfl

theorem run_loadCellsFrom {b o : Nat} {w : World} {us : Nat → Value} (n : Nat) : ∀ (i : Nat) (acc : Array Value),
    (∀ j, j < n → cel w b (o + (i + j)) = some (us (i + j))) →
    (loadCellsFrom ⟨b, o, none⟩ i n acc).run P w = .ok (acc ++ ((List.range' i n).map us).toArray) w := by
  induction n with
  | zero => intro i acc _; simp [loadCellsFrom, Sem.run_pure]
  | succ n ih =>
    intro i acc h
    simp only [loadCellsFrom]
    rw [Sem.run_bind, addr_add, run_load_cel (show cel w b (o + i) = some (us i) from h 0 (by omega))]
    simp only [Result.andThen]
    rw [ih (i + 1) _ (fun j hj => by have := h (j + 1) (by omega); rw [show i + 1 + j = i + (j + 1) by omega]; exact this)]
    simp [List.range'_succ]

theorem run_loadCells {b o : Nat} {w : World} {us : Nat → Value} {n : Nat} (h : ∀ j, j < n → cel w b (o + j) = some (us j)) :
    (loadCells ⟨b, o, none⟩ n).run P w = .ok ((List.range n).map us).toArray w := by
  unfold loadCells
  rw [run_loadCellsFrom n 0 #[] (fun j hj => by simpa using h j hj)]
  simp [List.range_eq_range']

/-- Cells that lie in a row, and what is loaded of them. -/
theorem load_cells {w : World} {e : Env} {vs : List V} {b o : Nat} {us : Nat → Value} {F : V → Value → Prop} (t : TypeId) {K : V → Prop}
    (h1 : ∀ (j : Nat) (v : V), vs[j]? = some v → cel w b (o + j) = some (us j)) (h2 : ∀ (j : Nat) (v : V), vs[j]? = some v → Rep w e v (us j))
    (hf : ∀ (j : Nat) (v : V), vs[j]? = some v → F v (us j))
    (h : evLoadCells P t vs K) : ∃ u v, (loadVar t ⟨b, o, none⟩).run P w = .ok u w ∧ K v ∧ Rep w e v u ∧ ((∀ cs u, F (.agg cs) u) → F v u) := by
  unfold evLoadCells at h
  cases htk : tk P t with
  | none => rw [htk] at h; exact h.elim
  | some bn =>
    obtain ⟨bb, n⟩ := bn
    obtain ⟨r1, r2⟩ := tk_some htk w
    rw [htk] at h
    cases bb with
    | true =>
      obtain ⟨hle, hk⟩ := h
      refine ⟨.agg ((List.range n).map us).toArray, _, ?_, hk, ?_, fun hF => hF _ _⟩
      · unfold loadVar
        rw [Sem.run_bind, r1]
        simp only [Result.andThen, if_true]
        rw [Sem.run_bind, r2]
        simp only [Result.andThen]
        rw [Sem.run_bind, run_loadCells (us := us) (fun j hj => h1 j vs[j] (List.getElem?_eq_getElem (by omega)))]
        rfl
      · refine .agg _ _ (by simp; omega) (fun i v u hv hu => ?_)
        rw [List.getElem?_take] at hv
        split at hv
        · rename_i hi
          have hu' : us i = u := by simpa [hi] using hu
          exact hu' ▸ h2 i v hv
        · cases hv
    | false =>
      cases vs with
      | nil => exact h.elim
      | cons v rest =>
        have hc := h1 0 v rfl
        refine ⟨us 0, v, ?_, h, h2 0 v rfl, fun _ => hf 0 v rfl⟩
        unfold loadVar
        rw [Sem.run_bind, r1]
        simp only [Result.andThen]
        exact run_load_cel (by simpa using hc)

end Go.Abs
