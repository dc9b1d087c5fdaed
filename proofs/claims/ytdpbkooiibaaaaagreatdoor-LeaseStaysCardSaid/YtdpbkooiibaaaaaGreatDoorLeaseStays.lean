/-
  'interchangelaw18.LeaseStays' returns true, whatever the input; the input reads as it did; the package variable that it reads holds what the program's text lays there (the card ties it).
-/
import Derived.Test.YtdpbkooiibaaaaaGreatDoorRows
import Derived.WalkKit
import Derived.ProofKit
import Derived.OpenShut
import Derived.ShutString
import Derived.LaidMore
import Derived.Stop.Joined
import Derived.SevenTiedAt
import Derived.Lay
import Derived.Test.YtdpbkooiibaaaaaGreatDoorCards
import Derived.Test.YtdpbkooiibaaaaaGreatDoorTie
import Derived.Test.YtdpbkooiibaaaaaGreatDoorT4
namespace Go.Proofs.YtdpbkooiibaaaaaGreatDoor.leaseStays
open Go.ChangeShapes Go.WideShapes Go.ChangeAt Go.RowKit
set_option linter.unusedVariables false

theorem own : ownKnob Tryz.prog.godebug = none := by kernel_rfl

theorem shapes : ∀ t ∈ Tryz.f7.params.toList, Go.Abs.plainT Tryz.prog true 8 t = true ∧ Tryz.prog.readableRec t = true ∧ t < Tryz.prog.types.size := by
  rw [Tryz.params7]
  intro t ht
  simp only [List.mem_cons, List.not_mem_nil, or_false] at ht
  rcases ht with rfl | rfl | rfl
  · exact ⟨by kernel_rfl, by kernel_rfl, of_decide_eq_true (by kernel_rfl)⟩
  · exact ⟨by kernel_rfl, by kernel_rfl, of_decide_eq_true (by kernel_rfl)⟩
  · exact ⟨by kernel_rfl, by kernel_rfl, of_decide_eq_true (by kernel_rfl)⟩

set_option maxRecDepth 100000 in
theorem lifted (os : Os) (started : os.Started) (H : Type) (enc : TypeId × Value → H) :
    ReturnsInHanded {} Tryz.checked os 7 .any (fun w args => (Rows.leaseStaysSpec.pre enc Tryz.prog Tryz.f7 [] false w args ∧ laidMetH Tryz.prog Go.Abs.Sig.laidZ w) ∧ sizedMet enc Tryz.prog Tryz.f7 (OpenSpec.ofChange Rows.leaseStaysSpec) false w args) (Rows.leaseStaysSpec.post enc Tryz.prog Tryz.f7 false true false false) := by
  refine returnsInHanded_of_change_and (C := Tryz.checked) (X := fun w _ => laidMetH Tryz.prog Go.Abs.Sig.laidZ w) (fun _ _ _ hh h => h.of_heap hh) own started (by kernel_rfl) Tryz.func7
    (ChangeSpec.witness_shaped (enc := enc) (C := Tryz.checked) (os := os) (X := fun w _ => laidMetH Tryz.prog Go.Abs.Sig.laidZ w) false (World.laidAll Tryz.prog os Go.Abs.Sig.laidZ) #[.agg #[.int .i64 0, .int .u64 0, .int .u64 0, .slice none 0 0, .bool false, .int .u64 0, .int .u64 0, .slice none 0 0, .int .i64 0, .int .u64 0, .slice none 0 0, .bool false, .slice none 0 0, .int .i64 0], .agg #[.int .i64 0, .int .i64 0, .slice none 0 0, .int .i64 0, .int .u64 0, .int .u64 0, .slice none 0 0, .string ⟨#[]⟩], .agg #[.int .i64 0, .int .i64 0, .slice none 0 0, .int .i64 0, .int .u64 0, .int .u64 0, .slice none 0 0, .string ⟨#[]⟩]] 8 (World.laidAll_os _ _ _) (World.shaped_of_ZipB (by kernel_rfl) (by kernel_rfl)) (by kernel_rfl) (by kernel_rfl) (by kernel_rfl) (Go.Abs.Sig.startZ_met os _)) ?_
  intro W base args ds gs before hval hW _ hsz hL _
  refine Go.Abs.calls_data (G := Go.Abs.Sig.GW) (fn := Tryz.f7) (s := Rows.leaseStaysSpec) (tb := 4) 8 hW rfl rfl hsz hval (by kernel_rfl) shapes rfl Tryz.underlying4 (fun hl => ?_) (Go.Abs.Sig.glob_GZ hL) ?_
  · rw [Tryz.params7] at hl
    match ds, hl with
    | [d0, d1, d2], _ => rfl
  · rw [Tryz.params7]
    exact Go.Abs.Sig.leaseStays_walk

theorem over : Rows.leaseStaysRow.holds Tryz.pinned (OpenSpec.ofChange Rows.leaseStaysSpec) :=
  OpenClaim.holds_of_wide 7 Tryz.f7 rfl rfl rfl rfl rfl rfl rfl ⟨rfl, rfl, rfl, rfl, rfl⟩ rfl rfl rfl rfl rfl (by kernel_rfl) Tryz.func7 (by kernel_rfl)
    (of_decide_eq_true (by kernel_rfl)) (by unfold Func.isWrapper; first | (rw [if_pos (by decide +kernel)]; kernel_rfl) | (rw [if_neg (by decide +kernel)]; exact ⟨rfl, rfl⟩))
    (fun os started H enc _ => lifted os started H enc)

theorem stand : ∀ t ∈ Tryz.f7.params.toList, Tryz.prog.wantsStandIn t = false := by
  rw [Tryz.params7]
  intro t ht
  simp only [List.mem_cons, List.not_mem_nil, or_false] at ht
  rcases ht with rfl | rfl | rfl
  · kernel_rfl
  · kernel_rfl
  · kernel_rfl

/-- ████ THE STATEMENT ████ -/
theorem proved : Rows.LeaseStaysCardSaid :=
  Claim7.holds_tied_plain_at .later [] [.data, .data, .data, .widerDeep] true (true, "e7dfbc61edbbb7236c8847b9e747207dc93af9d3b9d98ef51d5edda1389d81bc") false
    over (fun _ h => by cases h) (by kernel_rfl) (fun _ h => by cases h) leaseStays_row_tie rfl ⟨rfl, rfl⟩ (by kernel_rfl) rfl
    (fun f fn hf hfn => by
      obtain rfl : f = 7 := Option.some.inj ((show Tryz.prog.funcNamed "interchange/interchangelaw18.LeaseStays" = some 7 by kernel_rfl).symm.trans hf) |>.symm
      obtain rfl : fn = Tryz.f7 := (Option.some.inj (Tryz.func7.symm.trans hfn)).symm
      exact ⟨by kernel_rfl, fun j t ht => stand t (List.mem_of_getElem? (by rw [Array.getElem?_toList]; exact ht))⟩)
    (by kernel_rfl)
#print axioms proved
end Go.Proofs.YtdpbkooiibaaaaaGreatDoor.leaseStays
