/-
  'interchangelaw08.ContentKinds' returns true, whatever the input; the input reads as it did; the package variable that it reads holds what the program's text lays there (the card ties it).
-/
import Derived.Test.YtdpbkooiibaaaaaDoorRows
import Derived.WalkKit
import Derived.ProofKit
import Derived.OpenShut
import Derived.ShutString
import Derived.LaidMore
import Derived.Stop.Joined
import Derived.SevenTiedAt
import Derived.Test.YtdpbkooiibaaaaaDoorCards
import Derived.Test.YtdpbkooiibaaaaaDoorTie
import Derived.Test.YtdpbkooiibaaaaaDoorT2
namespace Go.Proofs.YtdpbkooiibaaaaaDoor.contentKinds
open Go.ChangeShapes Go.WideShapes Go.ChangeAt Go.RowKit
set_option linter.unusedVariables false

theorem own : ownKnob Tryd.prog.godebug = none := by kernel_rfl

theorem shapes : ∀ t ∈ Tryd.f4.params.toList, Go.Abs.plainT Tryd.prog true 8 t = true ∧ Tryd.prog.readableRec t = true ∧ t < Tryd.prog.types.size := by
  rw [Tryd.params4]
  intro t ht
  simp only [List.mem_cons, List.not_mem_nil, or_false] at ht
  rcases ht with rfl | rfl | rfl
  · exact ⟨by kernel_rfl, by kernel_rfl, of_decide_eq_true (by kernel_rfl)⟩
  · exact ⟨by kernel_rfl, by kernel_rfl, of_decide_eq_true (by kernel_rfl)⟩
  · exact ⟨by kernel_rfl, by kernel_rfl, of_decide_eq_true (by kernel_rfl)⟩

set_option maxRecDepth 100000 in
theorem lifted (os : Os) (started : os.Started) (H : Type) (enc : TypeId × Value → H) :
    ReturnsInHanded {} Tryd.checked os 4 .any (fun w args => (Rows.contentKindsSpec.pre enc Tryd.prog Tryd.f4 [] false w args ∧ laidMetH Tryd.prog Go.Abs.Sig.laidW w) ∧ sizedMet enc Tryd.prog Tryd.f4 (OpenSpec.ofChange Rows.contentKindsSpec) false w args) (Rows.contentKindsSpec.post enc Tryd.prog Tryd.f4 false true false false) := by
  refine returnsInHanded_of_change_and (C := Tryd.checked) (X := fun w _ => laidMetH Tryd.prog Go.Abs.Sig.laidW w) (fun _ _ _ hh h => h.of_heap hh) own started (by kernel_rfl) Tryd.func4
    (ChangeSpec.witness_shaped (enc := enc) (C := Tryd.checked) (os := os) (X := fun w _ => laidMetH Tryd.prog Go.Abs.Sig.laidW w) false (World.doorLaid Tryd.prog 400 os) #[.agg #[.int .i64 0, .int .i64 0, .slice none 0 0, .int .i64 0, .int .u64 0, .int .u64 0, .slice none 0 0, .string ⟨#[]⟩], .int .i64 0, .int .i64 0] 8 rfl (World.shaped_of_RefB (by kernel_rfl) (by kernel_rfl)) (by kernel_rfl) (by kernel_rfl) (by kernel_rfl) (Go.Abs.Sig.doorW_met os _)) ?_
  intro W base args ds gs before hval hW _ hsz hL _
  refine Go.Abs.calls_data (G := Go.Abs.Sig.GW) (fn := Tryd.f4) (s := Rows.contentKindsSpec) (tb := 4) 8 hW rfl rfl hsz hval (by kernel_rfl) shapes rfl Tryd.underlying4 (fun hl => ?_) (Go.Abs.Sig.glob_GW hL) ?_
  · rw [Tryd.params4] at hl
    match ds, hl with
    | [d0, d1, d2], _ => rfl
  · rw [Tryd.params4]
    exact Go.Abs.Sig.contentKinds_walk

theorem over : Rows.contentKindsRow.holds Tryd.pinned (OpenSpec.ofChange Rows.contentKindsSpec) :=
  OpenClaim.holds_of_wide 4 Tryd.f4 rfl rfl rfl rfl rfl rfl rfl ⟨rfl, rfl, rfl, rfl, rfl⟩ rfl rfl rfl rfl rfl (by kernel_rfl) Tryd.func4 (by kernel_rfl)
    (of_decide_eq_true (by kernel_rfl)) (by unfold Func.isWrapper; first | (rw [if_pos (by decide +kernel)]; kernel_rfl) | (rw [if_neg (by decide +kernel)]; exact ⟨rfl, rfl⟩))
    (fun os started H enc _ => lifted os started H enc)

theorem stand : ∀ t ∈ Tryd.f4.params.toList, Tryd.prog.wantsStandIn t = false := by
  rw [Tryd.params4]
  intro t ht
  simp only [List.mem_cons, List.not_mem_nil, or_false] at ht
  rcases ht with rfl | rfl | rfl
  · kernel_rfl
  · kernel_rfl
  · kernel_rfl

/-- ████ THE STATEMENT ████ -/
theorem proved : Rows.ContentKindsCardSaid :=
  Claim7.holds_tied_plain_at .later [] [.widerDeep] true (true, "e55c342ab3ed86df4246e5fb4ebd70ff5d0e5cd4d23f7b4592e17ca950f7db52") false
    over (fun _ h => by cases h) (by kernel_rfl) (fun _ h => by cases h) contentKinds_row_tie rfl ⟨rfl, rfl⟩ (by kernel_rfl) rfl
    (fun f fn hf hfn => by
      obtain rfl : f = 4 := Option.some.inj ((show Tryd.prog.funcNamed "interchange/interchangelaw08.ContentKinds" = some 4 by kernel_rfl).symm.trans hf) |>.symm
      obtain rfl : fn = Tryd.f4 := (Option.some.inj (Tryd.func4.symm.trans hfn)).symm
      exact ⟨by kernel_rfl, fun j t ht => stand t (List.mem_of_getElem? (by rw [Array.getElem?_toList]; exact ht))⟩)
    (by kernel_rfl)
#print axioms proved
end Go.Proofs.YtdpbkooiibaaaaaDoor.contentKinds
