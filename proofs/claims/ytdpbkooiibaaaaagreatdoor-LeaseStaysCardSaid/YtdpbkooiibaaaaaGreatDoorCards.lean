/-
  DERIVED. GIVEN WITH THE SEED: THE CARDS: each row of YtdpbkooiibaaaaaGreatDoorRows.lean that lists a variable, with what it lists TIED to the program's text (the seventh form; the later family's looks); each row that meets fmt, with fmt's text TOLD by the authors' own Lean function (tested against real Go, not proved from fmt's source: count such statements apart). THE CARD IS WHAT COUNTS. Prove the row's statement (the work); the ties are given (YtdpbkooiibaaaaaGreatDoorTie.lean); close each card by the builder's one call (the guide's Derived/Test/ToyasCard.lean, 'card_holds'). Laid BY PROGRAM, IN A SANDBOX (cutbox-door.mjs). By AI agents, Wed Nov 11 2026. No macro, syntax, notation, axiom, sorry.
-/
import Derived.Test.YtdpbkooiibaaaaaGreatDoorRows
import GoSem.ClaimSeven
namespace Go.Proofs.YtdpbkooiibaaaaaGreatDoor
namespace Rows

/-- THE TIED CARD OF 'interchangelaw18.LeaseAcks'. -/
def leaseAcksCard : Claim7 := { stood := { row := leaseAcksRow, standIns := [], harness := (true, "e7dfbc61edbbb7236c8847b9e747207dc93af9d3b9d98ef51d5edda1389d81bc"), looks := false }, kinds := [], alts := [], laidByText := true, laidKinds := [.data, .data, .data, .widerDeep], laidTests := true, laidLooks := .later }
def LeaseAcksCardSaid : Prop := Claim7.holds Tryz.pinned (.plain (OpenSpec.ofChange leaseAcksSpec)) leaseAcksCard

/-- THE TIED CARD OF 'interchangelaw18.LeasePlain'. -/
def leasePlainCard : Claim7 := { stood := { row := leasePlainRow, standIns := [], harness := (true, "e7dfbc61edbbb7236c8847b9e747207dc93af9d3b9d98ef51d5edda1389d81bc"), looks := false }, kinds := [], alts := [], laidByText := true, laidKinds := [.data, .data, .data, .widerDeep], laidTests := true, laidLooks := .later }
def LeasePlainCardSaid : Prop := Claim7.holds Tryz.pinned (.plain (OpenSpec.ofChange leasePlainSpec)) leasePlainCard

/-- THE TIED CARD OF 'interchangelaw18.LeaseModes'. -/
def leaseModesCard : Claim7 := { stood := { row := leaseModesRow, standIns := [], harness := (true, "e7dfbc61edbbb7236c8847b9e747207dc93af9d3b9d98ef51d5edda1389d81bc"), looks := false }, kinds := [], alts := [], laidByText := true, laidKinds := [.data, .data, .data, .widerDeep], laidTests := true, laidLooks := .later }
def LeaseModesCardSaid : Prop := Claim7.holds Tryz.pinned (.plain (OpenSpec.ofChange leaseModesSpec)) leaseModesCard

/-- THE TIED CARD OF 'interchangelaw18.LeaseIn'. -/
def leaseInCard : Claim7 := { stood := { row := leaseInRow, standIns := [], harness := (true, "e7dfbc61edbbb7236c8847b9e747207dc93af9d3b9d98ef51d5edda1389d81bc"), looks := false }, kinds := [], alts := [], laidByText := true, laidKinds := [.data, .data, .data, .widerDeep], laidTests := true, laidLooks := .later }
def LeaseInCardSaid : Prop := Claim7.holds Tryz.pinned (.plain (OpenSpec.ofChange leaseInSpec)) leaseInCard

/-- THE TIED CARD OF 'interchangelaw18.LeaseStays'. -/
def leaseStaysCard : Claim7 := { stood := { row := leaseStaysRow, standIns := [], harness := (true, "e7dfbc61edbbb7236c8847b9e747207dc93af9d3b9d98ef51d5edda1389d81bc"), looks := false }, kinds := [], alts := [], laidByText := true, laidKinds := [.data, .data, .data, .widerDeep], laidTests := true, laidLooks := .later }
def LeaseStaysCardSaid : Prop := Claim7.holds Tryz.pinned (.plain (OpenSpec.ofChange leaseStaysSpec)) leaseStaysCard

/-- THE TIED CARD OF 'interchangelaw18.LeaseSends'. -/
def leaseSendsCard : Claim7 := { stood := { row := leaseSendsRow, standIns := [], harness := (true, "e7dfbc61edbbb7236c8847b9e747207dc93af9d3b9d98ef51d5edda1389d81bc"), looks := false }, kinds := [], alts := [], laidByText := true, laidKinds := [.data, .data, .data, .widerDeep], laidTests := true, laidLooks := .later }
def LeaseSendsCardSaid : Prop := Claim7.holds Tryz.pinned (.plain (OpenSpec.ofChange leaseSendsSpec)) leaseSendsCard

/-- THE TIED CARD OF 'interchangelaw18.LeaseNumbers'. -/
def leaseNumbersCard : Claim7 := { stood := { row := leaseNumbersRow, standIns := [], harness := (true, "e7dfbc61edbbb7236c8847b9e747207dc93af9d3b9d98ef51d5edda1389d81bc"), looks := false }, kinds := [], alts := [], laidByText := true, laidKinds := [.data, .data, .data, .widerDeep], laidTests := true, laidLooks := .later }
def LeaseNumbersCardSaid : Prop := Claim7.holds Tryz.pinned (.plain (OpenSpec.ofChange leaseNumbersSpec)) leaseNumbersCard

/-- THE SECOND FORM's CARD OF 'interchangelaw18.LeaseAcks'. -/
def leaseAcksUptoCard : Claim7 := { stood := { row := leaseAcksUptoRow, standIns := [], harness := (true, "e7dfbc61edbbb7236c8847b9e747207dc93af9d3b9d98ef51d5edda1389d81bc"), looks := false }, kinds := [], alts := [], laidByText := true, laidKinds := [.data, .data, .data, .widerDeep], laidTests := true, laidLooks := .later }
def LeaseAcksUptoCardSaid : Prop := Claim7.holds Tryz.pinned (.plain (OpenSpec.upto leaseAcksSpec)) leaseAcksUptoCard

/-- THE SECOND FORM's CARD OF 'interchangelaw18.LeasePlain'. -/
def leasePlainUptoCard : Claim7 := { stood := { row := leasePlainUptoRow, standIns := [], harness := (true, "e7dfbc61edbbb7236c8847b9e747207dc93af9d3b9d98ef51d5edda1389d81bc"), looks := false }, kinds := [], alts := [], laidByText := true, laidKinds := [.data, .data, .data, .widerDeep], laidTests := true, laidLooks := .later }
def LeasePlainUptoCardSaid : Prop := Claim7.holds Tryz.pinned (.plain (OpenSpec.upto leasePlainSpec)) leasePlainUptoCard

/-- THE SECOND FORM's CARD OF 'interchangelaw18.LeaseModes'. -/
def leaseModesUptoCard : Claim7 := { stood := { row := leaseModesUptoRow, standIns := [], harness := (true, "e7dfbc61edbbb7236c8847b9e747207dc93af9d3b9d98ef51d5edda1389d81bc"), looks := false }, kinds := [], alts := [], laidByText := true, laidKinds := [.data, .data, .data, .widerDeep], laidTests := true, laidLooks := .later }
def LeaseModesUptoCardSaid : Prop := Claim7.holds Tryz.pinned (.plain (OpenSpec.upto leaseModesSpec)) leaseModesUptoCard

/-- THE SECOND FORM's CARD OF 'interchangelaw18.LeaseIn'. -/
def leaseInUptoCard : Claim7 := { stood := { row := leaseInUptoRow, standIns := [], harness := (true, "e7dfbc61edbbb7236c8847b9e747207dc93af9d3b9d98ef51d5edda1389d81bc"), looks := false }, kinds := [], alts := [], laidByText := true, laidKinds := [.data, .data, .data, .widerDeep], laidTests := true, laidLooks := .later }
def LeaseInUptoCardSaid : Prop := Claim7.holds Tryz.pinned (.plain (OpenSpec.upto leaseInSpec)) leaseInUptoCard

/-- THE SECOND FORM's CARD OF 'interchangelaw18.LeaseStays'. -/
def leaseStaysUptoCard : Claim7 := { stood := { row := leaseStaysUptoRow, standIns := [], harness := (true, "e7dfbc61edbbb7236c8847b9e747207dc93af9d3b9d98ef51d5edda1389d81bc"), looks := false }, kinds := [], alts := [], laidByText := true, laidKinds := [.data, .data, .data, .widerDeep], laidTests := true, laidLooks := .later }
def LeaseStaysUptoCardSaid : Prop := Claim7.holds Tryz.pinned (.plain (OpenSpec.upto leaseStaysSpec)) leaseStaysUptoCard

/-- THE SECOND FORM's CARD OF 'interchangelaw18.LeaseSends'. -/
def leaseSendsUptoCard : Claim7 := { stood := { row := leaseSendsUptoRow, standIns := [], harness := (true, "e7dfbc61edbbb7236c8847b9e747207dc93af9d3b9d98ef51d5edda1389d81bc"), looks := false }, kinds := [], alts := [], laidByText := true, laidKinds := [.data, .data, .data, .widerDeep], laidTests := true, laidLooks := .later }
def LeaseSendsUptoCardSaid : Prop := Claim7.holds Tryz.pinned (.plain (OpenSpec.upto leaseSendsSpec)) leaseSendsUptoCard

/-- THE SECOND FORM's CARD OF 'interchangelaw18.LeaseNumbers'. -/
def leaseNumbersUptoCard : Claim7 := { stood := { row := leaseNumbersUptoRow, standIns := [], harness := (true, "e7dfbc61edbbb7236c8847b9e747207dc93af9d3b9d98ef51d5edda1389d81bc"), looks := false }, kinds := [], alts := [], laidByText := true, laidKinds := [.data, .data, .data, .widerDeep], laidTests := true, laidLooks := .later }
def LeaseNumbersUptoCardSaid : Prop := Claim7.holds Tryz.pinned (.plain (OpenSpec.upto leaseNumbersSpec)) leaseNumbersUptoCard
end Rows
end Go.Proofs.YtdpbkooiibaaaaaGreatDoor
