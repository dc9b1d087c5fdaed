/- The walks of some functions: what they compute. -/
import Derived.Test.YteklnflddoekfaaDoorRASig3
namespace Go.Abs.Sig
open Go.RowKit Go.Abs
set_option linter.unusedSimpArgs false
set_option linter.unusedVariables false
set_option maxRecDepth 8000
attribute [local irreducible] StCall StYield WPc Weak IterOf Call2

def letters : List UInt8 := [111, 115, 108, 113, 98, 83, 76, 84]
set_option maxRecDepth 100000 in
theorem tab_letters : (tab.all fun r => r.2.2.1.all fun b => letters.contains b) = true := by decide
set_option maxRecDepth 100000 in
theorem tab_side : (tab.all fun r => decide (1 ≤ r.2.2.2.1) && decide (r.2.2.2.1 ≤ 3)) = true := by decide

theorem at_none {c i : Int} (h : isAt c i = false) : rowAt c i = zrow := by
  unfold isAt at h
  unfold rowAt
  cases hf : tab.find? (pAt c i) with
  | none => rfl
  | some r => rw [hf] at h; cases h

theorem at_some {c i : Int} (h : isAt c i = true) : rowAt c i ∈ tab := by
  unfold isAt at h
  unfold rowAt
  cases hf : tab.find? (pAt c i) with
  | none => rw [hf] at h; cases h
  | some r => exact List.mem_of_find?_eq_some hf

theorem letters_at {c i : Int} {b : UInt8} (h : b ∈ (rowAt c i).2.2.1) : b = 111 ∨ b = 115 ∨ b = 108 ∨ b = 113 ∨ b = 98 ∨ b = 83 ∨ b = 76 ∨ b = 84 := by
  cases hb : isAt c i with
  | false => rw [at_none hb] at h; cases h
  | true =>
    have := List.all_eq_true.1 (List.all_eq_true.1 tab_letters _ (at_some hb)) b h
    simpa [letters] using this

def leS (c i : Int) (s : List UInt8) (is : Bool) (j : Nat) : S2 := headS 95 ([.int .i64 c, .int .i64 i, .bad, .bad, .bad, .bool true, .str s, .bool is, .int .i64 (j : Int)] ++ List.replicate 86 .bad) [] [] none

theorem tab_short (c i : Int) : (rowAt c i).2.2.1.length ≤ 100 := by
  cases hb : isAt c i with
  | false => rw [at_none hb]; decide
  | true =>
    have h : (tab.all fun r => decide (r.2.2.1.length ≤ 100)) = true := by decide
    have := List.all_eq_true.1 h _ (at_some hb)
    simpa using this

end Go.Abs.Sig
