/-
  DERIVED. GIVEN WITH THE SEED: THE CARDS: each row of YtjfknmlchdifjaaGreatDoorRows.lean that lists a variable, with what it lists TIED to the program's text (the seventh form; the later family's looks); each row that meets fmt, with fmt's text TOLD by the authors' own Lean function (tested against real Go, not proved from fmt's source: count such statements apart). THE CARD IS WHAT COUNTS. Prove the row's statement (the work); the ties are given (YtjfknmlchdifjaaGreatDoorTie.lean); close each card by the builder's one call (the guide's Derived/Test/ToyasCard.lean, 'card_holds'). Laid BY PROGRAM, IN A SANDBOX (cutbox-door.mjs). By AI agents, Wed Nov 11 2026. No macro, syntax, notation, axiom, sorry.
-/
import Derived.Test.YtjfknmlchdifjaaGreatDoorRows
import GoSem.ClaimSeven
namespace Go.Proofs.YtjfknmlchdifjaaGreatDoor
namespace Rows

/-- THE TIED CARD OF 'foghornlaw12.WireParses'. -/
def wireParsesCard : Claim7 := { stood := { row := wireParsesRow, standIns := [], harness := (true, "f5978d46c07f0da5ee69488404ae682c79dd4e309cc46e29ddb0ab219e64abfa"), looks := true }, kinds := [], alts := [], laidByText := true, laidKinds := [.data, .data, .data, .data, .sentinel, .sentinel, .pinned], laidTests := true, laidLooks := .later }
def WireParsesCardSaid : Prop := Claim7.holds Tryz.pinned (.plain (OpenSpec.ofChange wireParsesSpec)) wireParsesCard

/-- THE TIED CARD OF 'foghornlaw12.WirePrints'. -/
def wirePrintsCard : Claim7 := { stood := { row := wirePrintsRow, standIns := [], harness := (true, "f5978d46c07f0da5ee69488404ae682c79dd4e309cc46e29ddb0ab219e64abfa"), looks := true }, kinds := [], alts := [], laidByText := true, laidKinds := [.data, .data, .data, .data, .sentinel, .sentinel, .pinned], laidTests := true, laidLooks := .later }
def WirePrintsCardSaid : Prop := Claim7.holds Tryz.pinned (.plain (OpenSpec.ofChange wirePrintsSpec)) wirePrintsCard

/-- THE TIED CARD OF 'foghornlaw12.WireBack'. -/
def wireBackCard : Claim7 := { stood := { row := wireBackRow, standIns := [], harness := (true, "f5978d46c07f0da5ee69488404ae682c79dd4e309cc46e29ddb0ab219e64abfa"), looks := true }, kinds := [], alts := [], laidByText := true, laidKinds := [.data, .data, .data, .data, .sentinel, .sentinel, .pinned], laidTests := true, laidLooks := .later }
def WireBackCardSaid : Prop := Claim7.holds Tryz.pinned (.plain (OpenSpec.ofChange wireBackSpec)) wireBackCard

/-- THE TIED CARD OF 'foghornlaw12.WireOrder'. -/
def wireOrderCard : Claim7 := { stood := { row := wireOrderRow, standIns := [], harness := (true, "f5978d46c07f0da5ee69488404ae682c79dd4e309cc46e29ddb0ab219e64abfa"), looks := true }, kinds := [], alts := [], laidByText := true, laidKinds := [.data, .data, .data, .data, .sentinel, .sentinel, .pinned], laidTests := true, laidLooks := .later }
def WireOrderCardSaid : Prop := Claim7.holds Tryz.pinned (.plain (OpenSpec.ofChange wireOrderSpec)) wireOrderCard

/-- THE TIED CARD OF 'foghornlaw13.ConfigParses'. -/
def configParsesCard : Claim7 := { stood := { row := configParsesRow, standIns := [], harness := (true, "f5978d46c07f0da5ee69488404ae682c79dd4e309cc46e29ddb0ab219e64abfa"), looks := true }, kinds := [], alts := [], laidByText := true, laidKinds := [.data, .data, .data, .data, .sentinel, .sentinel, .pinned], laidTests := true, laidLooks := .later }
def ConfigParsesCardSaid : Prop := Claim7.holds Tryz.pinned (.plain (OpenSpec.ofChange configParsesSpec)) configParsesCard

/-- THE TIED CARD OF 'foghornlaw13.ConfigPrints'. -/
def configPrintsCard : Claim7 := { stood := { row := configPrintsRow, standIns := [], harness := (true, "f5978d46c07f0da5ee69488404ae682c79dd4e309cc46e29ddb0ab219e64abfa"), looks := true }, kinds := [], alts := [], laidByText := true, laidKinds := [.data, .data, .data, .data, .sentinel, .sentinel, .pinned], laidTests := true, laidLooks := .later }
def ConfigPrintsCardSaid : Prop := Claim7.holds Tryz.pinned (.plain (OpenSpec.ofChange configPrintsSpec)) configPrintsCard

/-- THE TIED CARD OF 'foghornlaw13.ConfigBack'. -/
def configBackCard : Claim7 := { stood := { row := configBackRow, standIns := [], harness := (true, "f5978d46c07f0da5ee69488404ae682c79dd4e309cc46e29ddb0ab219e64abfa"), looks := true }, kinds := [], alts := [], laidByText := true, laidKinds := [.data, .data, .data, .data, .sentinel, .sentinel, .pinned], laidTests := true, laidLooks := .later }
def ConfigBackCardSaid : Prop := Claim7.holds Tryz.pinned (.plain (OpenSpec.ofChange configBackSpec)) configBackCard

/-- THE SECOND FORM's CARD OF 'foghornlaw12.WireParses'. -/
def wireParsesUptoCard : Claim7 := { stood := { row := wireParsesUptoRow, standIns := [], harness := (true, "f5978d46c07f0da5ee69488404ae682c79dd4e309cc46e29ddb0ab219e64abfa"), looks := true }, kinds := [], alts := [], laidByText := true, laidKinds := [.data, .data, .data, .data, .sentinel, .sentinel, .pinned], laidTests := true, laidLooks := .later }
def WireParsesUptoCardSaid : Prop := Claim7.holds Tryz.pinned (.plain (OpenSpec.upto wireParsesSpec)) wireParsesUptoCard

/-- THE SECOND FORM's CARD OF 'foghornlaw12.WirePrints'. -/
def wirePrintsUptoCard : Claim7 := { stood := { row := wirePrintsUptoRow, standIns := [], harness := (true, "f5978d46c07f0da5ee69488404ae682c79dd4e309cc46e29ddb0ab219e64abfa"), looks := true }, kinds := [], alts := [], laidByText := true, laidKinds := [.data, .data, .data, .data, .sentinel, .sentinel, .pinned], laidTests := true, laidLooks := .later }
def WirePrintsUptoCardSaid : Prop := Claim7.holds Tryz.pinned (.plain (OpenSpec.upto wirePrintsSpec)) wirePrintsUptoCard

/-- THE SECOND FORM's CARD OF 'foghornlaw12.WireBack'. -/
def wireBackUptoCard : Claim7 := { stood := { row := wireBackUptoRow, standIns := [], harness := (true, "f5978d46c07f0da5ee69488404ae682c79dd4e309cc46e29ddb0ab219e64abfa"), looks := true }, kinds := [], alts := [], laidByText := true, laidKinds := [.data, .data, .data, .data, .sentinel, .sentinel, .pinned], laidTests := true, laidLooks := .later }
def WireBackUptoCardSaid : Prop := Claim7.holds Tryz.pinned (.plain (OpenSpec.upto wireBackSpec)) wireBackUptoCard

/-- THE SECOND FORM's CARD OF 'foghornlaw12.WireOrder'. -/
def wireOrderUptoCard : Claim7 := { stood := { row := wireOrderUptoRow, standIns := [], harness := (true, "f5978d46c07f0da5ee69488404ae682c79dd4e309cc46e29ddb0ab219e64abfa"), looks := true }, kinds := [], alts := [], laidByText := true, laidKinds := [.data, .data, .data, .data, .sentinel, .sentinel, .pinned], laidTests := true, laidLooks := .later }
def WireOrderUptoCardSaid : Prop := Claim7.holds Tryz.pinned (.plain (OpenSpec.upto wireOrderSpec)) wireOrderUptoCard

/-- THE SECOND FORM's CARD OF 'foghornlaw13.ConfigParses'. -/
def configParsesUptoCard : Claim7 := { stood := { row := configParsesUptoRow, standIns := [], harness := (true, "f5978d46c07f0da5ee69488404ae682c79dd4e309cc46e29ddb0ab219e64abfa"), looks := true }, kinds := [], alts := [], laidByText := true, laidKinds := [.data, .data, .data, .data, .sentinel, .sentinel, .pinned], laidTests := true, laidLooks := .later }
def ConfigParsesUptoCardSaid : Prop := Claim7.holds Tryz.pinned (.plain (OpenSpec.upto configParsesSpec)) configParsesUptoCard

/-- THE SECOND FORM's CARD OF 'foghornlaw13.ConfigPrints'. -/
def configPrintsUptoCard : Claim7 := { stood := { row := configPrintsUptoRow, standIns := [], harness := (true, "f5978d46c07f0da5ee69488404ae682c79dd4e309cc46e29ddb0ab219e64abfa"), looks := true }, kinds := [], alts := [], laidByText := true, laidKinds := [.data, .data, .data, .data, .sentinel, .sentinel, .pinned], laidTests := true, laidLooks := .later }
def ConfigPrintsUptoCardSaid : Prop := Claim7.holds Tryz.pinned (.plain (OpenSpec.upto configPrintsSpec)) configPrintsUptoCard

/-- THE SECOND FORM's CARD OF 'foghornlaw13.ConfigBack'. -/
def configBackUptoCard : Claim7 := { stood := { row := configBackUptoRow, standIns := [], harness := (true, "f5978d46c07f0da5ee69488404ae682c79dd4e309cc46e29ddb0ab219e64abfa"), looks := true }, kinds := [], alts := [], laidByText := true, laidKinds := [.data, .data, .data, .data, .sentinel, .sentinel, .pinned], laidTests := true, laidLooks := .later }
def ConfigBackUptoCardSaid : Prop := Claim7.holds Tryz.pinned (.plain (OpenSpec.upto configBackSpec)) configBackUptoCard
end Rows
end Go.Proofs.YtjfknmlchdifjaaGreatDoor
