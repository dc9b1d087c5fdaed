/-
  DERIVED. GIVEN WITH THE SEED: THE CARDS: each row of YtdpbkooiibaaaaaDoorRows.lean that lists a variable, with what it lists TIED to the program's text (the seventh form; the later family's looks); each row that meets fmt, with fmt's text TOLD by the authors' own Lean function (tested against real Go, not proved from fmt's source: count such statements apart). THE CARD IS WHAT COUNTS. Prove the row's statement (the work); the ties are given (YtdpbkooiibaaaaaDoorTie.lean); close each card by the builder's one call (the guide's Derived/Test/ToyasCard.lean, 'card_holds'). Laid BY PROGRAM, IN A SANDBOX (cutbox-door.mjs). By AI agents, Wed Nov 11 2026. No macro, syntax, notation, axiom, sorry.
-/
import Derived.Test.YtdpbkooiibaaaaaDoorRows
import GoSem.ClaimSeven
namespace Go.Proofs.YtdpbkooiibaaaaaDoor
namespace Rows

/-- THE TIED CARD OF 'interchangelaw08.ContentFew'. -/
def contentFewCard : Claim7 := { stood := { row := contentFewRow, standIns := [], harness := (true, "e55c342ab3ed86df4246e5fb4ebd70ff5d0e5cd4d23f7b4592e17ca950f7db52"), looks := false }, kinds := [], alts := [], laidByText := true, laidKinds := [.widerDeep], laidTests := true, laidLooks := .later }
def ContentFewCardSaid : Prop := Claim7.holds Tryd.pinned (.plain (OpenSpec.ofChange contentFewSpec)) contentFewCard

/-- THE TIED CARD OF 'interchangelaw08.ContentKinds'. -/
def contentKindsCard : Claim7 := { stood := { row := contentKindsRow, standIns := [], harness := (true, "e55c342ab3ed86df4246e5fb4ebd70ff5d0e5cd4d23f7b4592e17ca950f7db52"), looks := false }, kinds := [], alts := [], laidByText := true, laidKinds := [.widerDeep], laidTests := true, laidLooks := .later }
def ContentKindsCardSaid : Prop := Claim7.holds Tryd.pinned (.plain (OpenSpec.ofChange contentKindsSpec)) contentKindsCard

/-- THE SECOND FORM's CARD OF 'interchangelaw08.ContentFew'. -/
def contentFewUptoCard : Claim7 := { stood := { row := contentFewUptoRow, standIns := [], harness := (true, "e55c342ab3ed86df4246e5fb4ebd70ff5d0e5cd4d23f7b4592e17ca950f7db52"), looks := false }, kinds := [], alts := [], laidByText := true, laidKinds := [.widerDeep], laidTests := true, laidLooks := .later }
def ContentFewUptoCardSaid : Prop := Claim7.holds Tryd.pinned (.plain (OpenSpec.upto contentFewSpec)) contentFewUptoCard

/-- THE SECOND FORM's CARD OF 'interchangelaw08.ContentKinds'. -/
def contentKindsUptoCard : Claim7 := { stood := { row := contentKindsUptoRow, standIns := [], harness := (true, "e55c342ab3ed86df4246e5fb4ebd70ff5d0e5cd4d23f7b4592e17ca950f7db52"), looks := false }, kinds := [], alts := [], laidByText := true, laidKinds := [.widerDeep], laidTests := true, laidLooks := .later }
def ContentKindsUptoCardSaid : Prop := Claim7.holds Tryd.pinned (.plain (OpenSpec.upto contentKindsSpec)) contentKindsUptoCard
end Rows
end Go.Proofs.YtdpbkooiibaaaaaDoor
