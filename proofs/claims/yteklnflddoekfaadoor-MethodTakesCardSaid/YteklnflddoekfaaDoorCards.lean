/-
  DERIVED. GIVEN WITH THE SEED: THE CARDS: each row of YteklnflddoekfaaDoorRows.lean that lists a variable, with what it lists TIED to the program's text (the seventh form; the later family's looks); each row that meets fmt, with fmt's text TOLD by the authors' own Lean function (tested against real Go, not proved from fmt's source: count such statements apart). THE CARD IS WHAT COUNTS. Prove the row's statement (the work); the ties are given (YteklnflddoekfaaDoorTie.lean); close each card by the builder's one call (the guide's Derived/Test/ToyasCard.lean, 'card_holds'). Laid BY PROGRAM, IN A SANDBOX (cutbox-door.mjs). By AI agents, Wed Nov 11 2026. No macro, syntax, notation, axiom, sorry.
-/
import Derived.Test.YteklnflddoekfaaDoorRows
import GoSem.ClaimSeven
namespace Go.Proofs.YteklnflddoekfaaDoor
namespace Rows

/-- THE TIED CARD OF 'interchangelaw09.CodeNamed'. -/
def codeNamedCard : Claim7 := { stood := { row := codeNamedRow, standIns := [], harness := (true, "de5ca6e6bc922dacbb39652634cf89c67a92ebdb005871dd9aed6964ff621c08"), looks := false }, kinds := [], alts := [], laidByText := true, laidKinds := [.data], laidTests := true, laidLooks := .later }
def CodeNamedCardSaid : Prop := Claim7.holds Tryd.pinned (.plain (OpenSpec.ofChange codeNamedSpec)) codeNamedCard

/-- THE TIED CARD OF 'interchangelaw09.CodeOnce'. -/
def codeOnceCard : Claim7 := { stood := { row := codeOnceRow, standIns := [], harness := (true, "de5ca6e6bc922dacbb39652634cf89c67a92ebdb005871dd9aed6964ff621c08"), looks := false }, kinds := [], alts := [], laidByText := true, laidKinds := [.data], laidTests := true, laidLooks := .later }
def CodeOnceCardSaid : Prop := Claim7.holds Tryd.pinned (.plain (OpenSpec.ofChange codeOnceSpec)) codeOnceCard

/-- THE TIED CARD OF 'interchangelaw09.CodeRight'. -/
def codeRightCard : Claim7 := { stood := { row := codeRightRow, standIns := [], harness := (true, "de5ca6e6bc922dacbb39652634cf89c67a92ebdb005871dd9aed6964ff621c08"), looks := false }, kinds := [], alts := [], laidByText := true, laidKinds := [.widerDeep, .data], laidTests := true, laidLooks := .later }
def CodeRightCardSaid : Prop := Claim7.holds Tryd.pinned (.plain (OpenSpec.ofChange codeRightSpec)) codeRightCard

/-- THE TIED CARD OF 'interchangelaw06.MethodNone'. -/
def methodNoneCard : Claim7 := { stood := { row := methodNoneRow, standIns := [], harness := (true, "de5ca6e6bc922dacbb39652634cf89c67a92ebdb005871dd9aed6964ff621c08"), looks := false }, kinds := [], alts := [], laidByText := true, laidKinds := [.widerDeep], laidTests := true, laidLooks := .later }
def MethodNoneCardSaid : Prop := Claim7.holds Tryd.pinned (.plain (OpenSpec.ofChange methodNoneSpec)) methodNoneCard

/-- THE TIED CARD OF 'interchangelaw06.MethodApart'. -/
def methodApartCard : Claim7 := { stood := { row := methodApartRow, standIns := [], harness := (true, "de5ca6e6bc922dacbb39652634cf89c67a92ebdb005871dd9aed6964ff621c08"), looks := false }, kinds := [], alts := [], laidByText := true, laidKinds := [.widerDeep], laidTests := true, laidLooks := .later }
def MethodApartCardSaid : Prop := Claim7.holds Tryd.pinned (.plain (OpenSpec.ofChange methodApartSpec)) methodApartCard

/-- THE TIED CARD OF 'interchangelaw06.MethodArgs'. -/
def methodArgsCard : Claim7 := { stood := { row := methodArgsRow, standIns := [], harness := (true, "de5ca6e6bc922dacbb39652634cf89c67a92ebdb005871dd9aed6964ff621c08"), looks := false }, kinds := [], alts := [], laidByText := true, laidKinds := [.widerDeep], laidTests := true, laidLooks := .later }
def MethodArgsCardSaid : Prop := Claim7.holds Tryd.pinned (.plain (OpenSpec.ofChange methodArgsSpec)) methodArgsCard

/-- THE TIED CARD OF 'interchangelaw06.MethodOne'. -/
def methodOneCard : Claim7 := { stood := { row := methodOneRow, standIns := [], harness := (true, "de5ca6e6bc922dacbb39652634cf89c67a92ebdb005871dd9aed6964ff621c08"), looks := false }, kinds := [], alts := [], laidByText := true, laidKinds := [.widerDeep], laidTests := true, laidLooks := .later }
def MethodOneCardSaid : Prop := Claim7.holds Tryd.pinned (.plain (OpenSpec.ofChange methodOneSpec)) methodOneCard

/-- THE TIED CARD OF 'interchangelaw06.MethodArg'. -/
def methodArgCard : Claim7 := { stood := { row := methodArgRow, standIns := [], harness := (true, "de5ca6e6bc922dacbb39652634cf89c67a92ebdb005871dd9aed6964ff621c08"), looks := false }, kinds := [], alts := [], laidByText := true, laidKinds := [.widerDeep], laidTests := true, laidLooks := .later }
def MethodArgCardSaid : Prop := Claim7.holds Tryd.pinned (.plain (OpenSpec.ofChange methodArgSpec)) methodArgCard

/-- THE TIED CARD OF 'interchangelaw06.MethodBack'. -/
def methodBackCard : Claim7 := { stood := { row := methodBackRow, standIns := [], harness := (true, "de5ca6e6bc922dacbb39652634cf89c67a92ebdb005871dd9aed6964ff621c08"), looks := false }, kinds := [], alts := [], laidByText := true, laidKinds := [.widerDeep], laidTests := true, laidLooks := .later }
def MethodBackCardSaid : Prop := Claim7.holds Tryd.pinned (.plain (OpenSpec.ofChange methodBackSpec)) methodBackCard

/-- THE TIED CARD OF 'interchangelaw06.MethodCut'. -/
def methodCutCard : Claim7 := { stood := { row := methodCutRow, standIns := [], harness := (true, "de5ca6e6bc922dacbb39652634cf89c67a92ebdb005871dd9aed6964ff621c08"), looks := false }, kinds := [], alts := [], laidByText := true, laidKinds := [.widerDeep], laidTests := true, laidLooks := .later }
def MethodCutCardSaid : Prop := Claim7.holds Tryd.pinned (.plain (OpenSpec.ofChange methodCutSpec)) methodCutCard

/-- THE TIED CARD OF 'interchangelaw06.MethodTakes'. -/
def methodTakesCard : Claim7 := { stood := { row := methodTakesRow, standIns := [], harness := (true, "de5ca6e6bc922dacbb39652634cf89c67a92ebdb005871dd9aed6964ff621c08"), looks := false }, kinds := [], alts := [], laidByText := true, laidKinds := [.widerDeep], laidTests := true, laidLooks := .later }
def MethodTakesCardSaid : Prop := Claim7.holds Tryd.pinned (.plain (OpenSpec.ofChange methodTakesSpec)) methodTakesCard

/-- THE SECOND FORM's CARD OF 'interchangelaw09.CodeNamed'. -/
def codeNamedUptoCard : Claim7 := { stood := { row := codeNamedUptoRow, standIns := [], harness := (true, "de5ca6e6bc922dacbb39652634cf89c67a92ebdb005871dd9aed6964ff621c08"), looks := false }, kinds := [], alts := [], laidByText := true, laidKinds := [.data], laidTests := true, laidLooks := .later }
def CodeNamedUptoCardSaid : Prop := Claim7.holds Tryd.pinned (.plain (OpenSpec.upto codeNamedSpec)) codeNamedUptoCard

/-- THE SECOND FORM's CARD OF 'interchangelaw09.CodeOnce'. -/
def codeOnceUptoCard : Claim7 := { stood := { row := codeOnceUptoRow, standIns := [], harness := (true, "de5ca6e6bc922dacbb39652634cf89c67a92ebdb005871dd9aed6964ff621c08"), looks := false }, kinds := [], alts := [], laidByText := true, laidKinds := [.data], laidTests := true, laidLooks := .later }
def CodeOnceUptoCardSaid : Prop := Claim7.holds Tryd.pinned (.plain (OpenSpec.upto codeOnceSpec)) codeOnceUptoCard

/-- THE SECOND FORM's CARD OF 'interchangelaw09.CodeRight'. -/
def codeRightUptoCard : Claim7 := { stood := { row := codeRightUptoRow, standIns := [], harness := (true, "de5ca6e6bc922dacbb39652634cf89c67a92ebdb005871dd9aed6964ff621c08"), looks := false }, kinds := [], alts := [], laidByText := true, laidKinds := [.widerDeep, .data], laidTests := true, laidLooks := .later }
def CodeRightUptoCardSaid : Prop := Claim7.holds Tryd.pinned (.plain (OpenSpec.upto codeRightSpec)) codeRightUptoCard

/-- THE SECOND FORM's CARD OF 'interchangelaw06.MethodNone'. -/
def methodNoneUptoCard : Claim7 := { stood := { row := methodNoneUptoRow, standIns := [], harness := (true, "de5ca6e6bc922dacbb39652634cf89c67a92ebdb005871dd9aed6964ff621c08"), looks := false }, kinds := [], alts := [], laidByText := true, laidKinds := [.widerDeep], laidTests := true, laidLooks := .later }
def MethodNoneUptoCardSaid : Prop := Claim7.holds Tryd.pinned (.plain (OpenSpec.upto methodNoneSpec)) methodNoneUptoCard

/-- THE SECOND FORM's CARD OF 'interchangelaw06.MethodApart'. -/
def methodApartUptoCard : Claim7 := { stood := { row := methodApartUptoRow, standIns := [], harness := (true, "de5ca6e6bc922dacbb39652634cf89c67a92ebdb005871dd9aed6964ff621c08"), looks := false }, kinds := [], alts := [], laidByText := true, laidKinds := [.widerDeep], laidTests := true, laidLooks := .later }
def MethodApartUptoCardSaid : Prop := Claim7.holds Tryd.pinned (.plain (OpenSpec.upto methodApartSpec)) methodApartUptoCard

/-- THE SECOND FORM's CARD OF 'interchangelaw06.MethodArgs'. -/
def methodArgsUptoCard : Claim7 := { stood := { row := methodArgsUptoRow, standIns := [], harness := (true, "de5ca6e6bc922dacbb39652634cf89c67a92ebdb005871dd9aed6964ff621c08"), looks := false }, kinds := [], alts := [], laidByText := true, laidKinds := [.widerDeep], laidTests := true, laidLooks := .later }
def MethodArgsUptoCardSaid : Prop := Claim7.holds Tryd.pinned (.plain (OpenSpec.upto methodArgsSpec)) methodArgsUptoCard

/-- THE SECOND FORM's CARD OF 'interchangelaw06.MethodOne'. -/
def methodOneUptoCard : Claim7 := { stood := { row := methodOneUptoRow, standIns := [], harness := (true, "de5ca6e6bc922dacbb39652634cf89c67a92ebdb005871dd9aed6964ff621c08"), looks := false }, kinds := [], alts := [], laidByText := true, laidKinds := [.widerDeep], laidTests := true, laidLooks := .later }
def MethodOneUptoCardSaid : Prop := Claim7.holds Tryd.pinned (.plain (OpenSpec.upto methodOneSpec)) methodOneUptoCard

/-- THE SECOND FORM's CARD OF 'interchangelaw06.MethodArg'. -/
def methodArgUptoCard : Claim7 := { stood := { row := methodArgUptoRow, standIns := [], harness := (true, "de5ca6e6bc922dacbb39652634cf89c67a92ebdb005871dd9aed6964ff621c08"), looks := false }, kinds := [], alts := [], laidByText := true, laidKinds := [.widerDeep], laidTests := true, laidLooks := .later }
def MethodArgUptoCardSaid : Prop := Claim7.holds Tryd.pinned (.plain (OpenSpec.upto methodArgSpec)) methodArgUptoCard

/-- THE SECOND FORM's CARD OF 'interchangelaw06.MethodBack'. -/
def methodBackUptoCard : Claim7 := { stood := { row := methodBackUptoRow, standIns := [], harness := (true, "de5ca6e6bc922dacbb39652634cf89c67a92ebdb005871dd9aed6964ff621c08"), looks := false }, kinds := [], alts := [], laidByText := true, laidKinds := [.widerDeep], laidTests := true, laidLooks := .later }
def MethodBackUptoCardSaid : Prop := Claim7.holds Tryd.pinned (.plain (OpenSpec.upto methodBackSpec)) methodBackUptoCard

/-- THE SECOND FORM's CARD OF 'interchangelaw06.MethodCut'. -/
def methodCutUptoCard : Claim7 := { stood := { row := methodCutUptoRow, standIns := [], harness := (true, "de5ca6e6bc922dacbb39652634cf89c67a92ebdb005871dd9aed6964ff621c08"), looks := false }, kinds := [], alts := [], laidByText := true, laidKinds := [.widerDeep], laidTests := true, laidLooks := .later }
def MethodCutUptoCardSaid : Prop := Claim7.holds Tryd.pinned (.plain (OpenSpec.upto methodCutSpec)) methodCutUptoCard

/-- THE SECOND FORM's CARD OF 'interchangelaw06.MethodTakes'. -/
def methodTakesUptoCard : Claim7 := { stood := { row := methodTakesUptoRow, standIns := [], harness := (true, "de5ca6e6bc922dacbb39652634cf89c67a92ebdb005871dd9aed6964ff621c08"), looks := false }, kinds := [], alts := [], laidByText := true, laidKinds := [.widerDeep], laidTests := true, laidLooks := .later }
def MethodTakesUptoCardSaid : Prop := Claim7.holds Tryd.pinned (.plain (OpenSpec.upto methodTakesSpec)) methodTakesUptoCard
end Rows
end Go.Proofs.YteklnflddoekfaaDoor
