/-
  No cell of these rows narrows 'for every input' (looked for: loops, veiled, ifaces, maps, wideKeys, modest, calm, conditions, laid).
  DERIVED. THE GIVEN ROWS OF THIS SEAT. 6 by the template 'for every input the law returns true; each argument reads behind the call as it read before'; 0 by the template 'total and deterministic' (their statements: YtopaddpclipnjaaTotals.lean).
  GIVEN WITH THE SEED: the statements are not yours to turn. If you find one false, say at which input.
  Laid BY PROGRAM, IN A SANDBOX (cutbox-rows.mjs): the forced cells as the released guide's own fill.sh prints them over the translation 63212ea8bdca3831… (all of the seat's roots in one cut). By AI agents, Wed Nov 11 2026. No macro, syntax, notation, axiom, sorry.
-/
import Derived.Test.YtopaddpclipnjaaChecked
import GoSem.Claim
import GoSem.ClaimJoined
import GoSem.ClaimMapViews
import Derived.JoinedTies
import Derived.KernelRfl
namespace Go.Proofs.Ytopaddpclipnjaa
/- THE CELL 'sum', in the pinned program and in every row, IS THE sha256 OF THE DUMP (.gsa) THAT YtopaddpclipnjaaProg.lean LOADS. Nothing in Lean hashes anything: it is a label: what it is worth is what the hold of that sum in a sandbox is worth. -/
noncomputable def Try.pinned : Pinned := { name := "ytopaddpclipnjaa", sum := "63212ea8bdca3831b08d27769bc66aed423f5f89fc394c018e4bbd90acb513b8", checked := Try.checked }
namespace Rows
def none {H : Type} : Left H := { results := [], args := [] }

/-- 'foghornlaw04.StoreBoots': WHATEVER THE INPUT: true; the input reads as it did. -/
def storeBootsSpec : ChangeSpec := { name := "storeBoots", fn := fun _ => fun
  | [d1, d2, d3] => { results := [.lit (.bool true)], args := [d1, d2, d3] }
  | _ => none }
def storeBootsRow : OpenClaim := { program := "ytopaddpclipnjaa", sum := "63212ea8bdca3831b08d27769bc66aed423f5f89fc394c018e4bbd90acb513b8", func := "foghorn/foghornlaw04.StoreBoots", spec := "storeBoots", inPlace := ["internal/abi.NoEscape", "internal/bytealg.MakeNoZero"], unfollowed := true, recurses := true, apart := false }
def StoreBootsSaid : Prop := storeBootsRow.holds Try.pinned (OpenSpec.ofChange storeBootsSpec)

/-- ITS FALSE NEIGHBOUR: 'it returns false'. Refute it at one input. -/
def storeBootsWrong : ChangeSpec := { name := "storeBoots", fn := fun _ => fun
  | [d1, d2, d3] => { results := [.lit (.bool false)], args := [d1, d2, d3] }
  | _ => none }
def StoreBootsWrongFalsely : Prop := storeBootsRow.holds Try.pinned (OpenSpec.ofChange storeBootsWrong)

/-- 'foghornlaw04.StoreFails': WHATEVER THE INPUT: true; the input reads as it did. -/
def storeFailsSpec : ChangeSpec := { name := "storeFails", fn := fun _ => fun
  | [d1, d2, d3] => { results := [.lit (.bool true)], args := [d1, d2, d3] }
  | _ => none }
def storeFailsRow : OpenClaim := { program := "ytopaddpclipnjaa", sum := "63212ea8bdca3831b08d27769bc66aed423f5f89fc394c018e4bbd90acb513b8", func := "foghorn/foghornlaw04.StoreFails", spec := "storeFails", inPlace := ["internal/abi.NoEscape", "internal/bytealg.MakeNoZero"], unfollowed := true, recurses := true, apart := false }
def StoreFailsSaid : Prop := storeFailsRow.holds Try.pinned (OpenSpec.ofChange storeFailsSpec)

/-- ITS FALSE NEIGHBOUR: 'it returns false'. Refute it at one input. -/
def storeFailsWrong : ChangeSpec := { name := "storeFails", fn := fun _ => fun
  | [d1, d2, d3] => { results := [.lit (.bool false)], args := [d1, d2, d3] }
  | _ => none }
def StoreFailsWrongFalsely : Prop := storeFailsRow.holds Try.pinned (OpenSpec.ofChange storeFailsWrong)

/-- 'foghornlaw04.StoreWrites': WHATEVER THE INPUT: true; the input reads as it did. -/
def storeWritesSpec : ChangeSpec := { name := "storeWrites", fn := fun _ => fun
  | [d1, d2, d3, d4, d5] => { results := [.lit (.bool true)], args := [d1, d2, d3, d4, d5] }
  | _ => none }
def storeWritesRow : OpenClaim := { program := "ytopaddpclipnjaa", sum := "63212ea8bdca3831b08d27769bc66aed423f5f89fc394c018e4bbd90acb513b8", func := "foghorn/foghornlaw04.StoreWrites", spec := "storeWrites", inPlace := ["internal/abi.NoEscape", "internal/bytealg.MakeNoZero"], unfollowed := true, recurses := true, apart := false }
def StoreWritesSaid : Prop := storeWritesRow.holds Try.pinned (OpenSpec.ofChange storeWritesSpec)

/-- ITS FALSE NEIGHBOUR: 'it returns false'. Refute it at one input. -/
def storeWritesWrong : ChangeSpec := { name := "storeWrites", fn := fun _ => fun
  | [d1, d2, d3, d4, d5] => { results := [.lit (.bool false)], args := [d1, d2, d3, d4, d5] }
  | _ => none }
def StoreWritesWrongFalsely : Prop := storeWritesRow.holds Try.pinned (OpenSpec.ofChange storeWritesWrong)

/-- 'foghornlaw04.StoreKeeps': WHATEVER THE INPUT: true; the input reads as it did. -/
def storeKeepsSpec : ChangeSpec := { name := "storeKeeps", fn := fun _ => fun
  | [d1, d2] => { results := [.lit (.bool true)], args := [d1, d2] }
  | _ => none }
def storeKeepsRow : OpenClaim := { program := "ytopaddpclipnjaa", sum := "63212ea8bdca3831b08d27769bc66aed423f5f89fc394c018e4bbd90acb513b8", func := "foghorn/foghornlaw04.StoreKeeps", spec := "storeKeeps", inPlace := ["internal/abi.NoEscape", "internal/bytealg.MakeNoZero"], unfollowed := true, recurses := true, apart := false }
def StoreKeepsSaid : Prop := storeKeepsRow.holds Try.pinned (OpenSpec.ofChange storeKeepsSpec)

/-- ITS FALSE NEIGHBOUR: 'it returns false'. Refute it at one input. -/
def storeKeepsWrong : ChangeSpec := { name := "storeKeeps", fn := fun _ => fun
  | [d1, d2] => { results := [.lit (.bool false)], args := [d1, d2] }
  | _ => none }
def StoreKeepsWrongFalsely : Prop := storeKeepsRow.holds Try.pinned (OpenSpec.ofChange storeKeepsWrong)

/-- 'foghornlaw04.StoreAgain': WHATEVER THE INPUT: true; the input reads as it did. -/
def storeAgainSpec : ChangeSpec := { name := "storeAgain", fn := fun _ => fun
  | [d1, d2] => { results := [.lit (.bool true)], args := [d1, d2] }
  | _ => none }
def storeAgainRow : OpenClaim := { program := "ytopaddpclipnjaa", sum := "63212ea8bdca3831b08d27769bc66aed423f5f89fc394c018e4bbd90acb513b8", func := "foghorn/foghornlaw04.StoreAgain", spec := "storeAgain", inPlace := ["internal/abi.NoEscape", "internal/bytealg.MakeNoZero"], unfollowed := true, recurses := true, apart := false }
def StoreAgainSaid : Prop := storeAgainRow.holds Try.pinned (OpenSpec.ofChange storeAgainSpec)

/-- ITS FALSE NEIGHBOUR: 'it returns false'. Refute it at one input. -/
def storeAgainWrong : ChangeSpec := { name := "storeAgain", fn := fun _ => fun
  | [d1, d2] => { results := [.lit (.bool false)], args := [d1, d2] }
  | _ => none }
def StoreAgainWrongFalsely : Prop := storeAgainRow.holds Try.pinned (OpenSpec.ofChange storeAgainWrong)

/-- 'foghornlaw04.StoreTurns': WHATEVER THE INPUT: true; the input reads as it did. -/
def storeTurnsSpec : ChangeSpec := { name := "storeTurns", fn := fun _ => fun
  | [d1, d2, d3] => { results := [.lit (.bool true)], args := [d1, d2, d3] }
  | _ => none }
def storeTurnsRow : OpenClaim := { program := "ytopaddpclipnjaa", sum := "63212ea8bdca3831b08d27769bc66aed423f5f89fc394c018e4bbd90acb513b8", func := "foghorn/foghornlaw04.StoreTurns", spec := "storeTurns", inPlace := ["internal/abi.NoEscape", "internal/bytealg.MakeNoZero"], unfollowed := true, recurses := true, apart := false }
def StoreTurnsSaid : Prop := storeTurnsRow.holds Try.pinned (OpenSpec.ofChange storeTurnsSpec)

/-- ITS FALSE NEIGHBOUR: 'it returns false'. Refute it at one input. -/
def storeTurnsWrong : ChangeSpec := { name := "storeTurns", fn := fun _ => fun
  | [d1, d2, d3] => { results := [.lit (.bool false)], args := [d1, d2, d3] }
  | _ => none }
def StoreTurnsWrongFalsely : Prop := storeTurnsRow.holds Try.pinned (OpenSpec.ofChange storeTurnsWrong)

/- THE SECOND FORM. 'bulk': how many values and letters a reading holds, each counted each time it is reached (what is shared counts as often as it is met; a slice's spare places count too). A statement '..UptoSaid' is the law's where the arguments, and the package variables that the reading takes, are together of bulk at most 1048576: NARROWER than '..Said'. Prove '..Said' where nothing that the law and all that it calls make is longer than what came in: it says more and counts as full. Else prove '..UptoSaid'. A law counts once. -/
mutual
def uptoBulk {H : Type} : DataW H → Nat
  | .lit (.string bytes) => bytes.length + 1
  | .lit _ => 1
  | .nil => 1
  | .ptr d => uptoBulk d + 1
  | .slice elems spare => uptoBulkAll elems + uptoBulkAll spare + 1
  | .agg parts => uptoBulkAll parts + 1
  | .iface _ d => uptoBulk d + 1
  | .map entries => uptoBulkEntries entries + 1
  | .held _ => 1
def uptoBulkAll {H : Type} : List (DataW H) → Nat
  | [] => 0
  | d :: r => uptoBulk d + uptoBulkAll r
def uptoBulkEntries {H : Type} : List (Lit × DataW H) → Nat
  | [] => 0
  | x :: r => uptoBulkEntry x + uptoBulkEntries r
def uptoBulkEntry {H : Type} : Lit × DataW H → Nat
  | (.string bytes, d) => bytes.length + uptoBulk d + 1
  | (_, d) => uptoBulk d + 1
 end
def uptoSmall : (H : Type) → List (DataW H) → Bool := fun _ ds => decide (uptoBulkAll ds ≤ 1048576)
def OpenSpec.upto (s : _root_.Go.ChangeSpec) : _root_.Go.OpenSpec := { _root_.Go.OpenSpec.ofChange s with cond := some uptoSmall }

/-- 'foghornlaw04.StoreBoots', WHERE WHAT IT READS IS OF BULK AT MOST 1048576: true; the input reads as it did. -/
def storeBootsUptoRow : OpenClaim := { program := "ytopaddpclipnjaa", sum := "63212ea8bdca3831b08d27769bc66aed423f5f89fc394c018e4bbd90acb513b8", func := "foghorn/foghornlaw04.StoreBoots", spec := "storeBoots", inPlace := ["internal/abi.NoEscape", "internal/bytealg.MakeNoZero"], unfollowed := true, recurses := true, apart := false, narrowed := true }
def StoreBootsUptoSaid : Prop := storeBootsUptoRow.holds Try.pinned (OpenSpec.upto storeBootsSpec)

/-- 'foghornlaw04.StoreFails', WHERE WHAT IT READS IS OF BULK AT MOST 1048576: true; the input reads as it did. -/
def storeFailsUptoRow : OpenClaim := { program := "ytopaddpclipnjaa", sum := "63212ea8bdca3831b08d27769bc66aed423f5f89fc394c018e4bbd90acb513b8", func := "foghorn/foghornlaw04.StoreFails", spec := "storeFails", inPlace := ["internal/abi.NoEscape", "internal/bytealg.MakeNoZero"], unfollowed := true, recurses := true, apart := false, narrowed := true }
def StoreFailsUptoSaid : Prop := storeFailsUptoRow.holds Try.pinned (OpenSpec.upto storeFailsSpec)

/-- 'foghornlaw04.StoreWrites', WHERE WHAT IT READS IS OF BULK AT MOST 1048576: true; the input reads as it did. -/
def storeWritesUptoRow : OpenClaim := { program := "ytopaddpclipnjaa", sum := "63212ea8bdca3831b08d27769bc66aed423f5f89fc394c018e4bbd90acb513b8", func := "foghorn/foghornlaw04.StoreWrites", spec := "storeWrites", inPlace := ["internal/abi.NoEscape", "internal/bytealg.MakeNoZero"], unfollowed := true, recurses := true, apart := false, narrowed := true }
def StoreWritesUptoSaid : Prop := storeWritesUptoRow.holds Try.pinned (OpenSpec.upto storeWritesSpec)

/-- 'foghornlaw04.StoreKeeps', WHERE WHAT IT READS IS OF BULK AT MOST 1048576: true; the input reads as it did. -/
def storeKeepsUptoRow : OpenClaim := { program := "ytopaddpclipnjaa", sum := "63212ea8bdca3831b08d27769bc66aed423f5f89fc394c018e4bbd90acb513b8", func := "foghorn/foghornlaw04.StoreKeeps", spec := "storeKeeps", inPlace := ["internal/abi.NoEscape", "internal/bytealg.MakeNoZero"], unfollowed := true, recurses := true, apart := false, narrowed := true }
def StoreKeepsUptoSaid : Prop := storeKeepsUptoRow.holds Try.pinned (OpenSpec.upto storeKeepsSpec)

/-- 'foghornlaw04.StoreAgain', WHERE WHAT IT READS IS OF BULK AT MOST 1048576: true; the input reads as it did. -/
def storeAgainUptoRow : OpenClaim := { program := "ytopaddpclipnjaa", sum := "63212ea8bdca3831b08d27769bc66aed423f5f89fc394c018e4bbd90acb513b8", func := "foghorn/foghornlaw04.StoreAgain", spec := "storeAgain", inPlace := ["internal/abi.NoEscape", "internal/bytealg.MakeNoZero"], unfollowed := true, recurses := true, apart := false, narrowed := true }
def StoreAgainUptoSaid : Prop := storeAgainUptoRow.holds Try.pinned (OpenSpec.upto storeAgainSpec)

/-- 'foghornlaw04.StoreTurns', WHERE WHAT IT READS IS OF BULK AT MOST 1048576: true; the input reads as it did. -/
def storeTurnsUptoRow : OpenClaim := { program := "ytopaddpclipnjaa", sum := "63212ea8bdca3831b08d27769bc66aed423f5f89fc394c018e4bbd90acb513b8", func := "foghorn/foghornlaw04.StoreTurns", spec := "storeTurns", inPlace := ["internal/abi.NoEscape", "internal/bytealg.MakeNoZero"], unfollowed := true, recurses := true, apart := false, narrowed := true }
def StoreTurnsUptoSaid : Prop := storeTurnsUptoRow.holds Try.pinned (OpenSpec.upto storeTurnsSpec)

end Rows
end Go.Proofs.Ytopaddpclipnjaa
