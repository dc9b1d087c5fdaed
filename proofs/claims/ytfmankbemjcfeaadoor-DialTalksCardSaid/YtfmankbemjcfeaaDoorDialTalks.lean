/-
  'interchangelaw11.DialTalks' returns true, whatever the input; the input reads as it did; the package variable that it reads holds what the program's text lays there (the card ties it).
-/
import Derived.Test.YtfmankbemjcfeaaDoorRows
import Derived.WalkKit
import Derived.ProofKit
import Derived.OpenShut
import Derived.ShutString
import Derived.LaidMore
import Derived.Stop.Joined
import Derived.SevenTiedAt
import Derived.Lay
import Derived.Test.YtfmankbemjcfeaaDoorCards
import Derived.Test.YtfmankbemjcfeaaDoorTie
import Derived.Test.YtfmankbemjcfeaaDoorT3
namespace Go.Proofs.YtfmankbemjcfeaaDoor.dialTalks
open Go.ChangeShapes Go.WideShapes Go.ChangeAt Go.RowKit
set_option linter.unusedVariables false

theorem own : ownKnob Tryd.prog.godebug = none := by kernel_rfl

theorem shapes : ∀ t ∈ Tryd.f11.params.toList, Go.Abs.plainT Tryd.prog true 8 t = true ∧ Tryd.prog.readableRec t = true ∧ t < Tryd.prog.types.size := by
  rw [Tryd.params11]
  intro t ht
  simp only [List.mem_cons, List.not_mem_nil, or_false] at ht
  rcases ht with rfl
  · exact ⟨by kernel_rfl, by kernel_rfl, of_decide_eq_true (by kernel_rfl)⟩

set_option maxRecDepth 100000 in
theorem lifted (os : Os) (started : os.Started) (H : Type) (enc : TypeId × Value → H) :
    ReturnsInHanded {} Tryd.checked os 11 .any (fun w args => (Rows.dialTalksSpec.pre enc Tryd.prog Tryd.f11 [] false w args ∧ laidMetH Tryd.prog Go.Abs.Sig.laidD w) ∧ sizedMet enc Tryd.prog Tryd.f11 (OpenSpec.ofChange Rows.dialTalksSpec) false w args) (Rows.dialTalksSpec.post enc Tryd.prog Tryd.f11 false true false false) := by
  refine returnsInHanded_of_change_and (C := Tryd.checked) (X := fun w _ => laidMetH Tryd.prog Go.Abs.Sig.laidD w) (fun _ _ _ hh h => h.of_heap hh) own started (by kernel_rfl) Tryd.func11
    (ChangeSpec.witness_shaped (enc := enc) (C := Tryd.checked) (os := os) (X := fun w _ => laidMetH Tryd.prog Go.Abs.Sig.laidD w) false (World.laidAll Tryd.prog os Go.Abs.Sig.laidD) #[.agg #[.int .i64 0, .int .i64 0, .int .i64 0, .int .i64 0, .int .i64 0, .int .i64 0, .string ⟨#[]⟩, .string ⟨#[]⟩, .string ⟨#[]⟩]] 8 (World.laidAll_os _ _ _) (World.shaped_of_ZipB (by kernel_rfl) (by kernel_rfl)) (by kernel_rfl) (by kernel_rfl) (by kernel_rfl) (Go.Abs.Sig.startD_met os _)) ?_
  intro W base args ds gs before hval hW _ hsz hL _
  refine Go.Abs.calls_data (G := Go.Abs.Sig.GW) (fn := Tryd.f11) (s := Rows.dialTalksSpec) (tb := 4) 8 hW rfl rfl hsz hval (by kernel_rfl) shapes rfl Tryd.underlying4 (fun hl => ?_) (Go.Abs.Sig.glob_GD hL) ?_
  · rw [Tryd.params11] at hl
    match ds, hl with
    | [d0], _ => rfl
  · rw [Tryd.params11]
    exact Go.Abs.Sig.dialTalks_walk

theorem over : Rows.dialTalksRow.holds Tryd.pinned (OpenSpec.ofChange Rows.dialTalksSpec) :=
  OpenClaim.holds_of_wide 11 Tryd.f11 rfl rfl rfl rfl rfl rfl rfl ⟨rfl, rfl, rfl, rfl, rfl⟩ rfl rfl rfl rfl rfl (by kernel_rfl) Tryd.func11 (by kernel_rfl)
    (of_decide_eq_true (by kernel_rfl)) (by unfold Func.isWrapper; first | (rw [if_pos (by decide +kernel)]; kernel_rfl) | (rw [if_neg (by decide +kernel)]; exact ⟨rfl, rfl⟩))
    (fun os started H enc _ => lifted os started H enc)

theorem stand : ∀ t ∈ Tryd.f11.params.toList, Tryd.prog.wantsStandIn t = false := by
  rw [Tryd.params11]
  intro t ht
  simp only [List.mem_cons, List.not_mem_nil, or_false] at ht
  rcases ht with rfl
  · kernel_rfl

/-- ████ THE STATEMENT ████ -/
theorem proved : Rows.DialTalksCardSaid :=
  Claim7.holds_tied_plain_at .later [] [.data, .widerDeep, .pinned] true (true, "75be2742ba326cefb84f256c438f7217a82303c810b241939ac83add9c07204a") false
    over (fun _ h => by cases h) (by kernel_rfl) (fun _ h => by cases h) dialTalks_row_tie rfl ⟨rfl, rfl⟩ (by kernel_rfl) rfl
    (fun f fn hf hfn => by
      obtain rfl : f = 11 := Option.some.inj ((show Tryd.prog.funcNamed "interchange/interchangelaw11.DialTalks" = some 11 by kernel_rfl).symm.trans hf) |>.symm
      obtain rfl : fn = Tryd.f11 := (Option.some.inj (Tryd.func11.symm.trans hfn)).symm
      exact ⟨by kernel_rfl, fun j t ht => stand t (List.mem_of_getElem? (by rw [Array.getElem?_toList]; exact ht))⟩)
    (by kernel_rfl)
#print axioms proved
end Go.Proofs.YtfmankbemjcfeaaDoor.dialTalks
