/- The walks of some functions: what they compute. -/
import Derived.Test.YteklnflddoekfaaDoorM10
import Derived.Test.YteklnflddoekfaaDoorAbsRow
import Derived.Test.YteklnflddoekfaaDoorRows
import Derived.LaidMore
import Derived.Stop.Joined
namespace Go.Abs.Sig
open Go.RowKit Go.Abs Go.ChangeShapes Go.WideShapes Go.ChangeAt
set_option linter.unusedSimpArgs false
set_option linter.unusedVariables false
set_option maxRecDepth 8000

theorem drop_get {α : Type} {l : List α} {a o : Nat} {u : α} (ho : o < 4) (h : (((l.drop a).take 4).drop o).take 1 = [u]) : l[a + o]? = some u := by
  have h0 : ((((l.drop a).take 4).drop o).take 1)[0]? = some u := by rw [h]; rfl
  rw [List.getElem?_take_of_lt (by omega), List.getElem?_drop, List.getElem?_take_of_lt (by omega), List.getElem?_drop] at h0
  simpa using h0

def laidE : List (String × DataW Unit) := [("interchange/num.widths", Go.Proofs.YteklnflddoekfaaDoor.Rows.laid_interchange_num_widths), ("interchange/code.entries", Go.Proofs.YteklnflddoekfaaDoor.Rows.laid_interchange_code_entries)]
def entD (r : Ent) : DataW Unit := .agg [.lit (.int .i64 r.1), .lit (.int .i64 r.2.1), .lit (.string r.2.2.1), .lit (.bool r.2.2.2)]
theorem laid_eq : (Go.Proofs.YteklnflddoekfaaDoor.Rows.laid_interchange_code_entries : DataW Unit) = .agg (ents.map entD) := rfl

theorem ent_cells {enc : TypeId × Value → Unit} {W : World} {sp : Nat → Bool} {held : Bool} {b f0 : Nat} {l : List Value} {p0 : List MemPlace} (hd : DataW.trod enc Go.Proofs.Tryd.prog W b sp held f0 104 l = some (.agg (ents.map entD), p0)) (i : Nat) (r : Ent) (hr : ents[i]? = some r) :
    l[i * 4 + 0]? = some (.int .i64 r.1) ∧ l[i * 4 + 1]? = some (.int .i64 r.2.1) ∧ (∃ s : ByteArray, l[i * 4 + 2]? = some (.string s) ∧ s.data.toList = r.2.2.1) ∧ l[i * 4 + 3]? = some (.bool r.2.2.2) := by
  have c70 : Program.cellsOf Go.Proofs.Tryd.prog 70 = 4 := by kernel_rfl
  have c22 : Program.cellsOf Go.Proofs.Tryd.prog 22 = 1 := by kernel_rfl
  have c3 : Program.cellsOf Go.Proofs.Tryd.prog 3 = 1 := by kernel_rfl
  have c9 : Program.cellsOf Go.Proofs.Tryd.prog 9 = 1 := by kernel_rfl
  have c4 : Program.cellsOf Go.Proofs.Tryd.prog 4 = 1 := by kernel_rfl
  obtain ⟨xs, m, _, hx, hlen, hn, hel⟩ := DataW.trod_array Go.Proofs.Tryd.underlying104 hd
  simp only [Prod.mk.injEq, DataW.agg.injEq] at hx
  have hi : i < 12 := by
    have := (List.getElem?_eq_some_iff.1 hr).1
    rwa [ents_length] at this
  have hxi : (xs.map (·.1))[i]? = some (entD r) := by rw [← hx.1, List.getElem?_map, hr]; rfl
  rw [List.getElem?_map] at hxi
  obtain ⟨y, hy, hye⟩ := Option.map_eq_some_iff.1 hxi
  have he := hel i hi
  rw [c70, hy] at he
  obtain ⟨ys, n, _, hyy, _, hn2, hf⟩ := DataW.trod_struct Go.Proofs.Tryd.underlying70 he
  subst hyy
  simp only [entD, DataW.agg.injEq] at hye
  match ys, hn2, hye with
  | [y0, y1, y2, y3], _, hye =>
    simp only [List.map_cons, List.map_nil, List.cons.injEq, and_true] at hye
    obtain ⟨e0, e1, e2, e3⟩ := hye
    obtain ⟨k0, g0, g0', _⟩ := DataW.trod_int Go.Proofs.Tryd.underlying22 (hf 0 _ rfl)
    obtain ⟨k1, g1, g1', _⟩ := DataW.trod_int Go.Proofs.Tryd.underlying3 (hf 1 _ rfl)
    obtain ⟨k2, g2, g2', _⟩ := DataW.trod_string Go.Proofs.Tryd.underlying9 (hf 2 _ rfl)
    obtain ⟨k3, g3, g3'⟩ := DataW.trod_bool Go.Proofs.Tryd.underlying4 (hf 3 _ rfl)
    rw [g0'] at e0
    rw [g1'] at e1
    rw [g2'] at e2
    rw [g3'] at e3
    simp only [DataW.lit.injEq, Lit.int.injEq, Lit.string.injEq, Lit.bool.injEq, true_and] at e0 e1 e2 e3
    subst e0
    subst e1
    subst e3
    exact ⟨drop_get (by decide) g0, drop_get (by decide) g1, ⟨k2, drop_get (by decide) g2, e2⟩, drop_get (by decide) g3⟩

theorem gE : Program.globalNamed Go.Proofs.Tryd.prog "interchange/code.entries" = some 0 := by kernel_rfl
theorem tE : (Go.Proofs.Tryd.prog.globals[0]?).map (·.type) = some 104 := by kernel_rfl

theorem glob_GC {W : World} (h : laidMetH Go.Proofs.Tryd.prog laidE W) : ∀ g cs, GC g = some cs → Rep W (Env.all W) (.rp cs) (.pointer (some ⟨g, 0, none⟩)) := by
  intro g cs hg
  rw [MakeChecks.laidMetH_plain _ _ _ (by kernel_rfl)] at h
  obtain ⟨ps, ⟨_, _, _, _, _, _, _, _, _, _, ⟨g0, t0, cs0, f0, p0, q0, hg0, ht0, hv0, hd0, _, _⟩, _⟩, _, _⟩ := h
  obtain rfl := Option.some.inj (gE.symm.trans hg0)
  obtain rfl := Option.some.inj (tE.symm.trans ht0)
  have hcell : ∀ j, W.cell? ⟨0, j, none⟩ = cs0[j]? := fun j => World.var?_cell hg0 hv0 j
  match g, hg with
  | 0, hg =>
    obtain rfl : entsV = cs := Option.some.inj hg
    refine rep_glob (fun j => (W.cell? ⟨0, j, none⟩).getD (.int .i64 0)) fun j v hv => ?_
    have hj : j < 48 := (List.getElem?_eq_some_iff.1 hv).1
    obtain ⟨r, hr⟩ : ∃ r, ents[j / 4]? = some r := ⟨_, List.getElem?_eq_getElem (by rw [ents_length]; omega)⟩
    obtain ⟨rest, hrest⟩ := ents_drop (j / 4) r hr
    have hjm : j = j / 4 * 4 + j % 4 := by omega
    have hv' : (ecells r)[j % 4]? = some v := by
      have h1 : (entsV.drop (j / 4 * 4))[j % 4]? = some v := by rw [List.getElem?_drop, ← hjm]; exact hv
      rw [hrest, List.getElem?_append_left (by show j % 4 < 4; omega)] at h1
      exact h1
    obtain ⟨c0, c1, ⟨s, c2, c2'⟩, c3⟩ := ent_cells hd0 (j / 4) r hr
    have key : ∃ u, cs0[j]? = some u ∧ plainV u = some v := by
      rw [hjm]
      have hm : j % 4 = 0 ∨ j % 4 = 1 ∨ j % 4 = 2 ∨ j % 4 = 3 := by omega
      rcases hm with hm | hm | hm | hm
      · rw [hm] at hv' ⊢
        exact ⟨.int .i64 r.1, by simpa using c0, hv'⟩
      · rw [hm] at hv' ⊢
        exact ⟨.int .i64 r.2.1, by simpa using c1, hv'⟩
      · rw [hm] at hv' ⊢
        refine ⟨.string s, by simpa using c2, ?_⟩
        show some (V.str s.data.toList) = some v
        rw [c2']
        exact hv'
      · rw [hm] at hv' ⊢
        exact ⟨.bool r.2.2.2, by simpa using c3, hv'⟩
    obtain ⟨u, hu1, hu2⟩ := key
    rw [hcell j, hu1]
    exact ⟨rfl, hu2⟩

/-- The door's own heap meets the condition. -/
theorem door_met (os : Os) (args : Array Value) : laidMetH Go.Proofs.Tryd.prog laidE ((World.doorLaid Go.Proofs.Tryd.prog 400 os).forCall (fun _ _ => 0) ⟨#[], args, []⟩).memory :=
  laidMetH_of_parts3 (fuel := 8) (laidMet_of_run' 8 (by kernel_rfl) (by kernel_rfl)) (by kernel_rfl) (by kernel_rfl)
end Go.Abs.Sig
