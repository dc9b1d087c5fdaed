/-
  DERIVED. GIVEN WITH THE SEED: THE CARDS: each row of YtfmankbemjcfeaaDoorRows.lean that lists a variable, with what it lists TIED to the program's text (the seventh form; the later family's looks); each row that meets fmt, with fmt's text TOLD by the authors' own Lean function (tested against real Go, not proved from fmt's source: count such statements apart). THE CARD IS WHAT COUNTS. Prove the row's statement (the work); the ties are given (YtfmankbemjcfeaaDoorTie.lean); close each card by the builder's one call (the guide's Derived/Test/ToyasCard.lean, 'card_holds'). Laid BY PROGRAM, IN A SANDBOX (cutbox-door.mjs). By AI agents, Wed Nov 11 2026. No macro, syntax, notation, axiom, sorry.
-/
import Derived.Test.YtfmankbemjcfeaaDoorRows
import GoSem.ClaimSeven
namespace Go.Proofs.YtfmankbemjcfeaaDoor
namespace Rows

/-- THE TIED CARD OF 'interchangelaw10.ServeRises'. -/
def serveRisesCard : Claim7 := { stood := { row := serveRisesRow, standIns := [], harness := (true, "75be2742ba326cefb84f256c438f7217a82303c810b241939ac83add9c07204a"), looks := false }, kinds := [], alts := [], laidByText := true, laidKinds := [.widerDeep], laidTests := true, laidLooks := .later }
def ServeRisesCardSaid : Prop := Claim7.holds Tryd.pinned (.plain (OpenSpec.ofChange serveRisesSpec)) serveRisesCard

/-- THE TIED CARD OF 'interchangelaw10.ServeAgrees'. -/
def serveAgreesCard : Claim7 := { stood := { row := serveAgreesRow, standIns := [], harness := (true, "75be2742ba326cefb84f256c438f7217a82303c810b241939ac83add9c07204a"), looks := false }, kinds := [], alts := [], laidByText := true, laidKinds := [.widerDeep], laidTests := true, laidLooks := .later }
def ServeAgreesCardSaid : Prop := Claim7.holds Tryd.pinned (.plain (OpenSpec.ofChange serveAgreesSpec)) serveAgreesCard

/-- THE TIED CARD OF 'interchangelaw10.ServeWrong'. -/
def serveWrongCard : Claim7 := { stood := { row := serveWrongRow, standIns := [], harness := (true, "75be2742ba326cefb84f256c438f7217a82303c810b241939ac83add9c07204a"), looks := false }, kinds := [], alts := [], laidByText := true, laidKinds := [.widerDeep], laidTests := true, laidLooks := .later }
def ServeWrongCardSaid : Prop := Claim7.holds Tryd.pinned (.plain (OpenSpec.ofChange serveWrongSpec)) serveWrongCard

/-- THE TIED CARD OF 'interchangelaw10.ServeNames'. -/
def serveNamesCard : Claim7 := { stood := { row := serveNamesRow, standIns := [], harness := (true, "75be2742ba326cefb84f256c438f7217a82303c810b241939ac83add9c07204a"), looks := false }, kinds := [], alts := [], laidByText := true, laidKinds := [.widerDeep], laidTests := true, laidLooks := .later }
def ServeNamesCardSaid : Prop := Claim7.holds Tryd.pinned (.plain (OpenSpec.ofChange serveNamesSpec)) serveNamesCard

/-- THE TIED CARD OF 'interchangelaw10.ServeGreets'. -/
def serveGreetsCard : Claim7 := { stood := { row := serveGreetsRow, standIns := [], harness := (true, "75be2742ba326cefb84f256c438f7217a82303c810b241939ac83add9c07204a"), looks := false }, kinds := [], alts := [], laidByText := true, laidKinds := [.widerDeep], laidTests := true, laidLooks := .later }
def ServeGreetsCardSaid : Prop := Claim7.holds Tryd.pinned (.plain (OpenSpec.ofChange serveGreetsSpec)) serveGreetsCard

/-- THE TIED CARD OF 'interchangelaw10.ServeShuts'. -/
def serveShutsCard : Claim7 := { stood := { row := serveShutsRow, standIns := [], harness := (true, "75be2742ba326cefb84f256c438f7217a82303c810b241939ac83add9c07204a"), looks := false }, kinds := [], alts := [], laidByText := true, laidKinds := [.widerDeep, .data], laidTests := true, laidLooks := .later }
def ServeShutsCardSaid : Prop := Claim7.holds Tryd.pinned (.plain (OpenSpec.ofChange serveShutsSpec)) serveShutsCard

/-- THE TIED CARD OF 'interchangelaw11.DialWrong'. -/
def dialWrongCard : Claim7 := { stood := { row := dialWrongRow, standIns := [], harness := (true, "75be2742ba326cefb84f256c438f7217a82303c810b241939ac83add9c07204a"), looks := false }, kinds := [], alts := [], laidByText := true, laidKinds := [.data, .widerDeep, .pinned], laidTests := true, laidLooks := .later }
def DialWrongCardSaid : Prop := Claim7.holds Tryd.pinned (.plain (OpenSpec.ofChange dialWrongSpec)) dialWrongCard

/-- THE TIED CARD OF 'interchangelaw11.DialRises'. -/
def dialRisesCard : Claim7 := { stood := { row := dialRisesRow, standIns := [], harness := (true, "75be2742ba326cefb84f256c438f7217a82303c810b241939ac83add9c07204a"), looks := false }, kinds := [], alts := [], laidByText := true, laidKinds := [.data, .widerDeep, .pinned], laidTests := true, laidLooks := .later }
def DialRisesCardSaid : Prop := Claim7.holds Tryd.pinned (.plain (OpenSpec.ofChange dialRisesSpec)) dialRisesCard

/-- THE TIED CARD OF 'interchangelaw11.DialTalks'. -/
def dialTalksCard : Claim7 := { stood := { row := dialTalksRow, standIns := [], harness := (true, "75be2742ba326cefb84f256c438f7217a82303c810b241939ac83add9c07204a"), looks := false }, kinds := [], alts := [], laidByText := true, laidKinds := [.data, .widerDeep, .pinned], laidTests := true, laidLooks := .later }
def DialTalksCardSaid : Prop := Claim7.holds Tryd.pinned (.plain (OpenSpec.ofChange dialTalksSpec)) dialTalksCard

/-- THE SECOND FORM's CARD OF 'interchangelaw10.ServeRises'. -/
def serveRisesUptoCard : Claim7 := { stood := { row := serveRisesUptoRow, standIns := [], harness := (true, "75be2742ba326cefb84f256c438f7217a82303c810b241939ac83add9c07204a"), looks := false }, kinds := [], alts := [], laidByText := true, laidKinds := [.widerDeep], laidTests := true, laidLooks := .later }
def ServeRisesUptoCardSaid : Prop := Claim7.holds Tryd.pinned (.plain (OpenSpec.upto serveRisesSpec)) serveRisesUptoCard

/-- THE SECOND FORM's CARD OF 'interchangelaw10.ServeAgrees'. -/
def serveAgreesUptoCard : Claim7 := { stood := { row := serveAgreesUptoRow, standIns := [], harness := (true, "75be2742ba326cefb84f256c438f7217a82303c810b241939ac83add9c07204a"), looks := false }, kinds := [], alts := [], laidByText := true, laidKinds := [.widerDeep], laidTests := true, laidLooks := .later }
def ServeAgreesUptoCardSaid : Prop := Claim7.holds Tryd.pinned (.plain (OpenSpec.upto serveAgreesSpec)) serveAgreesUptoCard

/-- THE SECOND FORM's CARD OF 'interchangelaw10.ServeWrong'. -/
def serveWrongUptoCard : Claim7 := { stood := { row := serveWrongUptoRow, standIns := [], harness := (true, "75be2742ba326cefb84f256c438f7217a82303c810b241939ac83add9c07204a"), looks := false }, kinds := [], alts := [], laidByText := true, laidKinds := [.widerDeep], laidTests := true, laidLooks := .later }
def ServeWrongUptoCardSaid : Prop := Claim7.holds Tryd.pinned (.plain (OpenSpec.upto serveWrongSpec)) serveWrongUptoCard

/-- THE SECOND FORM's CARD OF 'interchangelaw10.ServeNames'. -/
def serveNamesUptoCard : Claim7 := { stood := { row := serveNamesUptoRow, standIns := [], harness := (true, "75be2742ba326cefb84f256c438f7217a82303c810b241939ac83add9c07204a"), looks := false }, kinds := [], alts := [], laidByText := true, laidKinds := [.widerDeep], laidTests := true, laidLooks := .later }
def ServeNamesUptoCardSaid : Prop := Claim7.holds Tryd.pinned (.plain (OpenSpec.upto serveNamesSpec)) serveNamesUptoCard

/-- THE SECOND FORM's CARD OF 'interchangelaw10.ServeGreets'. -/
def serveGreetsUptoCard : Claim7 := { stood := { row := serveGreetsUptoRow, standIns := [], harness := (true, "75be2742ba326cefb84f256c438f7217a82303c810b241939ac83add9c07204a"), looks := false }, kinds := [], alts := [], laidByText := true, laidKinds := [.widerDeep], laidTests := true, laidLooks := .later }
def ServeGreetsUptoCardSaid : Prop := Claim7.holds Tryd.pinned (.plain (OpenSpec.upto serveGreetsSpec)) serveGreetsUptoCard

/-- THE SECOND FORM's CARD OF 'interchangelaw10.ServeShuts'. -/
def serveShutsUptoCard : Claim7 := { stood := { row := serveShutsUptoRow, standIns := [], harness := (true, "75be2742ba326cefb84f256c438f7217a82303c810b241939ac83add9c07204a"), looks := false }, kinds := [], alts := [], laidByText := true, laidKinds := [.widerDeep, .data], laidTests := true, laidLooks := .later }
def ServeShutsUptoCardSaid : Prop := Claim7.holds Tryd.pinned (.plain (OpenSpec.upto serveShutsSpec)) serveShutsUptoCard

/-- THE SECOND FORM's CARD OF 'interchangelaw11.DialWrong'. -/
def dialWrongUptoCard : Claim7 := { stood := { row := dialWrongUptoRow, standIns := [], harness := (true, "75be2742ba326cefb84f256c438f7217a82303c810b241939ac83add9c07204a"), looks := false }, kinds := [], alts := [], laidByText := true, laidKinds := [.data, .widerDeep, .pinned], laidTests := true, laidLooks := .later }
def DialWrongUptoCardSaid : Prop := Claim7.holds Tryd.pinned (.plain (OpenSpec.upto dialWrongSpec)) dialWrongUptoCard

/-- THE SECOND FORM's CARD OF 'interchangelaw11.DialRises'. -/
def dialRisesUptoCard : Claim7 := { stood := { row := dialRisesUptoRow, standIns := [], harness := (true, "75be2742ba326cefb84f256c438f7217a82303c810b241939ac83add9c07204a"), looks := false }, kinds := [], alts := [], laidByText := true, laidKinds := [.data, .widerDeep, .pinned], laidTests := true, laidLooks := .later }
def DialRisesUptoCardSaid : Prop := Claim7.holds Tryd.pinned (.plain (OpenSpec.upto dialRisesSpec)) dialRisesUptoCard

/-- THE SECOND FORM's CARD OF 'interchangelaw11.DialTalks'. -/
def dialTalksUptoCard : Claim7 := { stood := { row := dialTalksUptoRow, standIns := [], harness := (true, "75be2742ba326cefb84f256c438f7217a82303c810b241939ac83add9c07204a"), looks := false }, kinds := [], alts := [], laidByText := true, laidKinds := [.data, .widerDeep, .pinned], laidTests := true, laidLooks := .later }
def DialTalksUptoCardSaid : Prop := Claim7.holds Tryd.pinned (.plain (OpenSpec.upto dialTalksSpec)) dialTalksUptoCard
end Rows
end Go.Proofs.YtfmankbemjcfeaaDoor
