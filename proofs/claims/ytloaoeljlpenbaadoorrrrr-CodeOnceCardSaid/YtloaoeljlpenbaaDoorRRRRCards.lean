/-
  DERIVED. GIVEN WITH THE SEED: THE CARDS: each row of YtloaoeljlpenbaaDoorRRRRRows.lean that lists a variable, with what it lists TIED to the program's text (the seventh form; the later family's looks); each row that meets fmt, with fmt's text TOLD by the authors' own Lean function (tested against real Go, not proved from fmt's source: count such statements apart). THE CARD IS WHAT COUNTS. Prove the row's statement (the work); the ties are given (YtloaoeljlpenbaaDoorRRRRTie.lean); close each card by the builder's one call (the guide's Derived/Test/ToyasCard.lean, 'card_holds'). Laid BY PROGRAM, IN A SANDBOX (cutbox-door.mjs). By AI agents, Wed Nov 11 2026. No macro, syntax, notation, axiom, sorry.
-/
import Derived.Test.YtloaoeljlpenbaaDoorRRRRRows
import GoSem.ClaimSeven
namespace Go.Proofs.YtloaoeljlpenbaaDoorRRRR
namespace Rows

/-- THE TIED CARD OF 'interchangelaw09.CodeNamed'. -/
def codeNamedCard : Claim7 := { stood := { row := codeNamedRow, standIns := [], harness := (true, "14289a9549eb90a2a211fb85f6cefe82a2902e07abeed546f7599c3be8db24b2"), looks := false }, kinds := [], alts := [], laidByText := true, laidKinds := [.data], laidTests := true, laidLooks := .later }
def CodeNamedCardSaid : Prop := Claim7.holds Tryd.pinned (.plain (OpenSpec.ofChange codeNamedSpec)) codeNamedCard

/-- THE TIED CARD OF 'interchangelaw09.CodeOnce'. -/
def codeOnceCard : Claim7 := { stood := { row := codeOnceRow, standIns := [], harness := (true, "14289a9549eb90a2a211fb85f6cefe82a2902e07abeed546f7599c3be8db24b2"), looks := false }, kinds := [], alts := [], laidByText := true, laidKinds := [.data], laidTests := true, laidLooks := .later }
def CodeOnceCardSaid : Prop := Claim7.holds Tryd.pinned (.plain (OpenSpec.ofChange codeOnceSpec)) codeOnceCard

/-- THE SECOND FORM's CARD OF 'interchangelaw09.CodeNamed'. -/
def codeNamedUptoCard : Claim7 := { stood := { row := codeNamedUptoRow, standIns := [], harness := (true, "14289a9549eb90a2a211fb85f6cefe82a2902e07abeed546f7599c3be8db24b2"), looks := false }, kinds := [], alts := [], laidByText := true, laidKinds := [.data], laidTests := true, laidLooks := .later }
def CodeNamedUptoCardSaid : Prop := Claim7.holds Tryd.pinned (.plain (OpenSpec.upto codeNamedSpec)) codeNamedUptoCard

/-- THE SECOND FORM's CARD OF 'interchangelaw09.CodeOnce'. -/
def codeOnceUptoCard : Claim7 := { stood := { row := codeOnceUptoRow, standIns := [], harness := (true, "14289a9549eb90a2a211fb85f6cefe82a2902e07abeed546f7599c3be8db24b2"), looks := false }, kinds := [], alts := [], laidByText := true, laidKinds := [.data], laidTests := true, laidLooks := .later }
def CodeOnceUptoCardSaid : Prop := Claim7.holds Tryd.pinned (.plain (OpenSpec.upto codeOnceSpec)) codeOnceUptoCard
end Rows
end Go.Proofs.YtloaoeljlpenbaaDoorRRRR
