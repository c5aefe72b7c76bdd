/-
  DERIVED. GIVEN WITH THE SEED: THE CARDS: each row of YtejdpjmfnpbadaaGreatDoorRows.lean that lists a variable, with what it lists TIED to the program's text (the seventh form; the later family's looks); each row that meets fmt, with fmt's text TOLD by the authors' own Lean function (tested against real Go, not proved from fmt's source: count such statements apart). THE CARD IS WHAT COUNTS. Prove the row's statement (the work); the ties are given (YtejdpjmfnpbadaaGreatDoorTie.lean); close each card by the builder's one call (the guide's Derived/Test/ToyasCard.lean, 'card_holds'). Laid BY PROGRAM, IN A SANDBOX (cutbox-door.mjs). By AI agents, Wed Nov 11 2026. No macro, syntax, notation, axiom, sorry.
-/
import Derived.Test.YtejdpjmfnpbadaaGreatDoorRows
import GoSem.ClaimSeven
namespace Go.Proofs.YtejdpjmfnpbadaaGreatDoor
namespace Rows

/-- THE TIED CARD OF 'foghornlaw24.BoundTells'. -/
def boundTellsCard : Claim7 := { stood := { row := boundTellsRow, standIns := [], harness := (true, "9f7c8d4ed5b2bdafecac772380d7baa63e311e3db5aef929390f112c2e770879"), looks := true }, kinds := [], alts := [], laidByText := true, laidKinds := [.data, .data, .data, .data, .sentinel, .sentinel, .pinned], laidTests := true, laidLooks := .later }
def BoundTellsCardSaid : Prop := Claim7.holds Tryz.pinned (.plain (OpenSpec.ofChange boundTellsSpec)) boundTellsCard

/-- THE TIED CARD OF 'foghornlaw24.BoundRises'. -/
def boundRisesCard : Claim7 := { stood := { row := boundRisesRow, standIns := [], harness := (true, "9f7c8d4ed5b2bdafecac772380d7baa63e311e3db5aef929390f112c2e770879"), looks := true }, kinds := [], alts := [], laidByText := true, laidKinds := [.data, .data, .data, .data, .sentinel, .sentinel, .pinned], laidTests := true, laidLooks := .later }
def BoundRisesCardSaid : Prop := Claim7.holds Tryz.pinned (.plain (OpenSpec.ofChange boundRisesSpec)) boundRisesCard

/-- THE TIED CARD OF 'foghornlaw24.BoundMany'. -/
def boundManyCard : Claim7 := { stood := { row := boundManyRow, standIns := [], harness := (true, "9f7c8d4ed5b2bdafecac772380d7baa63e311e3db5aef929390f112c2e770879"), looks := true }, kinds := [], alts := [], laidByText := true, laidKinds := [.data, .data, .data, .data, .sentinel, .sentinel, .pinned], laidTests := true, laidLooks := .later }
def BoundManyCardSaid : Prop := Claim7.holds Tryz.pinned (.plain (OpenSpec.ofChange boundManySpec)) boundManyCard

/-- THE SECOND FORM's CARD OF 'foghornlaw24.BoundTells'. -/
def boundTellsUptoCard : Claim7 := { stood := { row := boundTellsUptoRow, standIns := [], harness := (true, "9f7c8d4ed5b2bdafecac772380d7baa63e311e3db5aef929390f112c2e770879"), looks := true }, kinds := [], alts := [], laidByText := true, laidKinds := [.data, .data, .data, .data, .sentinel, .sentinel, .pinned], laidTests := true, laidLooks := .later }
def BoundTellsUptoCardSaid : Prop := Claim7.holds Tryz.pinned (.plain (OpenSpec.upto boundTellsSpec)) boundTellsUptoCard

/-- THE SECOND FORM's CARD OF 'foghornlaw24.BoundRises'. -/
def boundRisesUptoCard : Claim7 := { stood := { row := boundRisesUptoRow, standIns := [], harness := (true, "9f7c8d4ed5b2bdafecac772380d7baa63e311e3db5aef929390f112c2e770879"), looks := true }, kinds := [], alts := [], laidByText := true, laidKinds := [.data, .data, .data, .data, .sentinel, .sentinel, .pinned], laidTests := true, laidLooks := .later }
def BoundRisesUptoCardSaid : Prop := Claim7.holds Tryz.pinned (.plain (OpenSpec.upto boundRisesSpec)) boundRisesUptoCard

/-- THE SECOND FORM's CARD OF 'foghornlaw24.BoundMany'. -/
def boundManyUptoCard : Claim7 := { stood := { row := boundManyUptoRow, standIns := [], harness := (true, "9f7c8d4ed5b2bdafecac772380d7baa63e311e3db5aef929390f112c2e770879"), looks := true }, kinds := [], alts := [], laidByText := true, laidKinds := [.data, .data, .data, .data, .sentinel, .sentinel, .pinned], laidTests := true, laidLooks := .later }
def BoundManyUptoCardSaid : Prop := Claim7.holds Tryz.pinned (.plain (OpenSpec.upto boundManySpec)) boundManyUptoCard
end Rows
end Go.Proofs.YtejdpjmfnpbadaaGreatDoor
