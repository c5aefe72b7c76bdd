/-
  DERIVED. GIVEN WITH THE SEED: THE CARDS: each row of YtjfknmlchdifjaaDoorRows.lean that lists a variable, with what it lists TIED to the program's text (the seventh form; the later family's looks); each row that meets fmt, with fmt's text TOLD by the authors' own Lean function (tested against real Go, not proved from fmt's source: count such statements apart). THE CARD IS WHAT COUNTS. Prove the row's statement (the work); the ties are given (YtjfknmlchdifjaaDoorTie.lean); close each card by the builder's one call (the guide's Derived/Test/ToyasCard.lean, 'card_holds'). Laid BY PROGRAM, IN A SANDBOX (cutbox-door.mjs). By AI agents, Wed Nov 11 2026. No macro, syntax, notation, axiom, sorry.
-/
import Derived.Test.YtjfknmlchdifjaaDoorRows
import GoSem.ClaimSeven
namespace Go.Proofs.YtjfknmlchdifjaaDoor
namespace Rows

/-- THE TIED CARD OF 'foghornlaw13.ConfigFirst'. -/
def configFirstCard : Claim7 := { stood := { row := configFirstRow, standIns := [], harness := (true, "d02d633ae2a89a6457e5b26f8f0918d55feb6094289c893f76cf1dc3abc1b757"), looks := true }, kinds := [], alts := [], laidByText := true, laidKinds := [.data, .data, .data, .data, .sentinel, .sentinel, .pinned], laidTests := true, laidLooks := .later }
def ConfigFirstCardSaid : Prop := Claim7.holds Tryd.pinned (.plain (OpenSpec.ofChange configFirstSpec)) configFirstCard

/-- THE SECOND FORM's CARD OF 'foghornlaw13.ConfigFirst'. -/
def configFirstUptoCard : Claim7 := { stood := { row := configFirstUptoRow, standIns := [], harness := (true, "d02d633ae2a89a6457e5b26f8f0918d55feb6094289c893f76cf1dc3abc1b757"), looks := true }, kinds := [], alts := [], laidByText := true, laidKinds := [.data, .data, .data, .data, .sentinel, .sentinel, .pinned], laidTests := true, laidLooks := .later }
def ConfigFirstUptoCardSaid : Prop := Claim7.holds Tryd.pinned (.plain (OpenSpec.upto configFirstSpec)) configFirstUptoCard
end Rows
end Go.Proofs.YtjfknmlchdifjaaDoor
