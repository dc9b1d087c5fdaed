/- Arithmetic, comparisons, parts. -/
import Derived.Test.YteklnflddoekfaaDoorAbsSound4
import Derived.Laws.Strings
namespace Go.Abs
open Go.RowKit

variable {P : Program} {G : Nat → Option (List V)}

theorem rep_int {w : World} {e : Env} {k : IntKind} {n : Int} {u : Value} (h : RepF w e (.im (.int k n)) u) : u = .int k n := by
  cases h.1 with
  | im => rfl
theorem rep_im {w : World} {e : Env} {v : Value} {u : Value} (h : RepF w e (.im v) u) : u = v := by
  cases h.1 with
  | im => rfl
theorem rep_str {w : World} {e : Env} {l : List UInt8} {u : Value} (h : RepF w e (.str l) u) : u = .string ⟨⟨l⟩⟩ := by
  cases h.1 with
  | str => rfl

theorem repF_im (w : World) (e : Env) (v : Value) : RepF w e (.im v) v := ⟨.im v, trivial⟩
theorem repF_str (w : World) (e : Env) (l : List UInt8) : RepF w e (.str l) (.string ⟨⟨l⟩⟩) := ⟨.str l, trivial⟩

theorem ba_toList (l : List UInt8) : (⟨⟨l⟩⟩ : ByteArray).toList = l := ByteArray.toList_mk _

theorem evInt_run {op : BinOp} {k : IntKind} {a b : Int} {K : V → Prop} (t : TypeId) (hop : op ≠ .shl ∧ op ≠ .shr) (h : evInt op k a b K) (w : World) :
    ∃ u, K (.im u) ∧ (binOp op t (.int k a) (.int k b)).run P w = .ok u w := by
  cases op <;> simp only [evInt] at h <;> first
    | exact h.elim
    | (simp at hop; done)
    | skip
  case quo => exact ⟨_, h.2, by simp [binOp, Op.intDiv, h.1]⟩
  case rem => exact ⟨_, h.2, by simp [binOp, Op.intDiv, h.1]⟩
  case eql => exact ⟨_, h, by simp [binOp, Op.intCmp]; rfl⟩
  case neq => exact ⟨_, h, by simp [binOp, Op.intCmp, bne]; rfl⟩
  all_goals exact ⟨_, h, by simp [binOp, Op.intArith, Op.intBits, Op.intCmp]⟩

theorem evStr_run {op : BinOp} {a b : List UInt8} {K : V → Prop} (t : TypeId) (h : evStr op a b K) (w : World) :
    ∃ u v, K v ∧ (binOp op t (.string ⟨⟨a⟩⟩) (.string ⟨⟨b⟩⟩)).run P w = .ok u w ∧ ∀ e, RepF w e v u := by
  have hs : ∀ l : List UInt8, (⟨⟨l⟩⟩ : ByteArray).size = l.length := fun l => rfl
  have heq : (a == b) = decide (a = b) := by rw [Bool.eq_iff_iff]; simp
  cases op <;> simp only [evStr] at h <;> first
    | exact h.elim
    | skip
  case add =>
    obtain ⟨h1, h2⟩ := h
    refine ⟨.string ((⟨⟨a⟩⟩ : ByteArray) ++ ⟨⟨b⟩⟩), _, h2, ?_, fun e => ?_⟩
    · simp only [binOp, Op.stringOp, hs]
      rw [if_neg (by omega)]
      rfl
    · have : ((⟨⟨a⟩⟩ : ByteArray) ++ ⟨⟨b⟩⟩) = ⟨⟨a ++ b⟩⟩ := by
        apply ByteArray.ext
        simp
      rw [this]
      exact repF_str w e _
  case neq => exact ⟨_, _, h, by simp only [binOp, Op.stringOp, ba_toList, heq]; rfl, fun e => by rw [show (!decide (a = b)) = decide (a ≠ b) by simp]; exact repF_im w e _⟩
  all_goals exact ⟨_, _, h, by simp only [binOp, Op.stringOp, ba_toList, heq]; rfl, fun e => repF_im w e _⟩

end Go.Abs
