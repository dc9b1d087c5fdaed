/- From contracts to rows. -/
import Derived.Test.YteklnflddoekfaaDoorAbsEv5
import Derived.ProofKit
import Derived.OpenShut
import Derived.ShutString
namespace Go.Abs
open Go.RowKit Go.ChangeShapes Go.WideShapes Go.ChangeAt

variable {P : Program} {G : Nat → Option (List V)}

theorem Ext.below {w w' : World} {e e' : Env} {H' : Heap} (h : Ext [] w e H' w' e') (hs : ∀ c b o, ¬ e.Sp c b o) : Below w.heap.size w w' :=
  ⟨h.os, h.tape, h.output, h.size, fun k hk => h.block k hk (fun id hl => by obtain ⟨b, hb⟩ := hl; simp at hb) fun c o => hs c k o⟩

/-- An environment that knows of nothing. -/
def Env.none_ : Env := { N := 0, ρ := fun _ => 0, RO := fun _ _ => False, Sp := fun _ _ _ => False }

theorem rheap_none (w : World) : RHeap (fun _ => none) [] w Env.none_ :=
  ⟨rfl, fun id b hb => by simp at hb, fun i j hi => by obtain ⟨b, hb⟩ := hi; simp at hb, fun b o h => h.elim, fun id o hl => by obtain ⟨b, hb⟩ := hl; simp at hb, fun c b o h => h.elim, fun _ _ _ _ h => h.elim, fun g cs h => by cases h⟩

/-- A law of plain values. -/
theorem walk_of {f : FuncId} {us : List Value} {Ψ : V → Prop} {r : Value} (hr : ∀ v, Ψ v → v = .im r) (h : Call2 P (fun _ => none) f (us.map V.im) [] fun v H' => H' = [] ∧ Ψ v) (w : World) :
    Calls P f us.toArray w fun en w' => en = .returned r ∧ Below w.heap.size w w' := by
  have hargs : Reps w Env.none_ (us.map V.im) us := ⟨by simp, fun i v u hv hu => by
    rw [List.getElem?_map, hu] at hv
    simp only [Option.map_some, Option.some.injEq] at hv
    subst hv
    exact repF_im _ _ _⟩
  refine callsIn_wide.1 (CallsIn.mono (h.2 w Env.none_ us (rheap_none w) hargs) ?_)
  rintro en w' ⟨v, x, H', e', rfl, ⟨rfl, hΨ⟩, _, hv, hx⟩
  have := hr x hΨ
  subst this
  exact ⟨by rw [rep_im hv], hx.below fun _ _ _ h => h⟩

/-- An environment that may read all that is there. -/
def Env.all (w : World) : Env := { N := 0, ρ := fun _ => 0, RO := fun b o => (cel w b o).isSome = true, Sp := fun _ _ _ => False }

theorem rheap_all {G : Nat → Option (List V)} (w : World) (hG : ∀ g cs, G g = some cs → Rep w (Env.all w) (.rp cs) (.pointer (some ⟨g, 0, none⟩))) : RHeap G [] w (Env.all w) :=
  ⟨rfl, fun id b hb => by simp at hb, fun i j hi => by obtain ⟨b, hb⟩ := hi; simp at hb, fun b o h => h, fun id o hl => by obtain ⟨b, hb⟩ := hl; simp at hb, fun c b o h => h.elim, fun _ _ _ _ h => h.elim, hG⟩

/-- A law of values that are there, and of package variables. -/
theorem walk_all {G : Nat → Option (List V)} {f : FuncId} {vs : List V} {us : List Value} {Ψ : V → Prop} {r : Value} (hr : ∀ v, Ψ v → v = .im r) (w : World)
    (hG : ∀ g cs, G g = some cs → Rep w (Env.all w) (.rp cs) (.pointer (some ⟨g, 0, none⟩))) (hargs : Reps w (Env.all w) vs us)
    (h : Call2 P G f vs [] fun v H' => H' = [] ∧ Ψ v) :
    Calls P f us.toArray w fun en w' => en = .returned r ∧ Below w.heap.size w w' := by
  refine callsIn_wide.1 (CallsIn.mono (h.2 w (Env.all w) us (rheap_all w hG) hargs) ?_)
  rintro en w' ⟨v, x, H', e', rfl, ⟨rfl, hΨ⟩, _, hv, hx⟩
  have := hr x hΨ
  subst this
  exact ⟨by rw [rep_im hv], hx.below fun _ _ _ h => h⟩

theorem reps_im (w : World) (e : Env) (us : List Value) : Reps w e (us.map V.im) us := ⟨by simp, fun i v u hv hu => by
    rw [List.getElem?_map, hu] at hv
    simp only [Option.map_some, Option.some.injEq] at hv
    subst hv
    exact repF_im _ _ _⟩

/-- A plain cell as it stands. -/
def plainV : Value → Option V
  | .int k n => some (.int k n)
  | .bool b => some (.bool b)
  | .string s => some (.str s.data.toList)
  | _ => none

theorem rep_plain {w : World} {e : Env} {u : Value} {v : V} (h : plainV u = some v) : Rep w e v u := by
  cases u with
  | int k n => cases h; exact .im _
  | bool b => cases h; exact .im _
  | string s => cases h; exact .str s.data.toList
  | _ => cases h

/-- A package variable of plain cells. -/
theorem rep_glob {w : World} {g : Nat} {cs : List V} (us : Nat → Value) (h : ∀ (j : Nat) (v : V), cs[j]? = some v → w.cell? ⟨g, j, none⟩ = some (us j) ∧ plainV (us j) = some v) :
    Rep w (Env.all w) (.rp cs) (.pointer (some ⟨g, 0, none⟩)) :=
  .rp cs g 0 us (fun j v hv => by
    have h1 : cel w g (0 + j) = some (us j) := by rw [Nat.zero_add]; exact (h j v hv).1
    exact ⟨h1, by show (cel w g (0 + j)).isSome = true; rw [h1]; rfl⟩) (fun j v hv => rep_plain (h j v hv).2)

theorem wf_i64 {n : Int} (h : (Lit.int .i64 n).wf = true) : -9223372036854775808 ≤ n ∧ n ≤ 9223372036854775807 := by
  simp only [Lit.wf, Bool.and_eq_true, decide_eq_true_eq] at h
  exact h

section
variable {H : Type} {enc : TypeId × Value → H}
/-- The row's end, where nothing that was there has turned. -/
theorem post_below {f : Func} {s : ChangeSpec} {apart fresh handsOn again : Bool} {W W' : World} {args : Array Value} {v : Value} {ds gs : List (DataW H)} {before pa pv : List MemPlace}
    (hW : DataW.Whole enc P f.params.toList s.vars apart W args.toList ds gs before)
    (hres : ∀ (b : Nat) (sp : Nat → Bool) (hd : Bool), DataW.TrodAll enc P W' b sp hd f.resultTypes.toList (v.resultList f.resultTypes.size) (s.fn H (ds ++ gs)).results [])
    (hargs : ∀ sp : Nat → Bool, (∀ p ∈ before, sp p.block = true) → DataW.TrodAll enc P W' 0 sp true f.params.toList args.toList (s.fn H (ds ++ gs)).args pa)
    (hvars : ∀ sp : Nat → Bool, (∀ p ∈ before, sp p.block = true) → DataW.TrodVars enc P W' sp s.vars (s.fn H (ds ++ gs)).vars pv)
    (hps : before = pa ++ pv) (hB : Below W.heap.size W W')
    (hok : ∀ (j : Nat) (t : TypeId) (r : Value), f.resultTypes[j]? = some t → (v.resultList f.resultTypes.size)[j]? = some r → Value.okWide P W' .any 0 t r) :
    s.post enc P f apart fresh handsOn again W args v W' := by
  have hlt : ∀ p ∈ before, p.block < W.heap.size := fun p hp => hW.lt p hp
  have hold : ∀ p ∈ before, (fun b => decide (b < W.heap.size)) p.block = true := fun p hp => by simpa using hlt p hp
  refine ⟨ds, gs, before, [], pa, pv, hW, hres _ _ _, hargs _ hold, hvars _ hold, World.keptBut_mono (fun p hp => ⟨hp, ?_⟩) (hB.frame (· ∈ before)), fun _ => ?_⟩
  · rw [hps, List.mem_append] at hp
    exact Or.inr hp
  · obtain ⟨_, _, _, _, _, hz, hn⟩ := hW
    refine ⟨hok, _, _, ([] ++ pa) ++ pv, ⟨[] ++ pa, pv, trodAll_append (hargs _ (fun _ _ => rfl)) (hres _ _ _), hvars _ (fun _ _ => rfl), rfl, ?_, ?_⟩, ?_⟩
    · intro b off hp
      have hp' : MemPlace.cell b off ∈ before := by rw [hps]; simpa using hp
      rw [hB.frozen (p := ⟨b, off, none⟩) (hlt _ hp')]
      exact hz b off hp'
    · intro ha
      have := hn ha
      rw [hps] at this
      simpa using this
    · intro p hp _
      rw [hps]
      simpa using hp
end

end Go.Abs
