/-
  No cell of these rows narrows 'for every input' (looked for: loops, veiled, ifaces, maps, wideKeys, modest, calm, conditions, laid).
  DERIVED. THE GIVEN ROWS OF THIS SEAT. 13 by the template 'for every input the law returns true; each argument reads behind the call as it read before'; 0 by the template 'total and deterministic' (their statements: YthkehbdljckbdaaTotals.lean).
  GIVEN WITH THE SEED: the statements are not yours to turn. If you find one false, say at which input.
  Laid BY PROGRAM, IN A SANDBOX (cutbox-rows.mjs): the forced cells as the released guide's own fill.sh prints them over the translation 8bc62605840edd61… (all of the seat's roots in one cut). By AI agents, Wed Nov 11 2026. No macro, syntax, notation, axiom, sorry.
-/
import Derived.Test.YthkehbdljckbdaaChecked
import GoSem.Claim
import GoSem.ClaimJoined
import GoSem.ClaimMapViews
import Derived.JoinedTies
import Derived.KernelRfl
namespace Go.Proofs.Ythkehbdljckbdaa
/- THE CELL 'sum', in the pinned program and in every row, IS THE sha256 OF THE DUMP (.gsa) THAT YthkehbdljckbdaaProg.lean LOADS. Nothing in Lean hashes anything: it is a label: what it is worth is what the hold of that sum in a sandbox is worth. -/
noncomputable def Try.pinned : Pinned := { name := "ythkehbdljckbdaa", sum := "8bc62605840edd617278ac574a30c9f0837416bffd7333fcf76f4c37ea22f82f", checked := Try.checked }
namespace Rows
def none {H : Type} : Left H := { results := [], args := [] }

/-- 'switchboardlaw17.PlaceTurns': WHATEVER THE INPUT: true; the input reads as it did. -/
def placeTurnsSpec : ChangeSpec := { name := "placeTurns", fn := fun _ => fun
  | [d1, d2, d3] => { results := [.lit (.bool true)], args := [d1, d2, d3] }
  | _ => none }
def placeTurnsRow : OpenClaim := { program := "ythkehbdljckbdaa", sum := "8bc62605840edd617278ac574a30c9f0837416bffd7333fcf76f4c37ea22f82f", func := "switchboard/switchboardlaw17.PlaceTurns", spec := "placeTurns", unfollowed := true, recurses := true, apart := false }
def PlaceTurnsSaid : Prop := placeTurnsRow.holds Try.pinned (OpenSpec.ofChange placeTurnsSpec)

/-- ITS FALSE NEIGHBOUR: 'it returns false'. Refute it at one input. -/
def placeTurnsWrong : ChangeSpec := { name := "placeTurns", fn := fun _ => fun
  | [d1, d2, d3] => { results := [.lit (.bool false)], args := [d1, d2, d3] }
  | _ => none }
def PlaceTurnsWrongFalsely : Prop := placeTurnsRow.holds Try.pinned (OpenSpec.ofChange placeTurnsWrong)

/-- 'switchboardlaw17.PlaceKeeps': WHATEVER THE INPUT: true; the input reads as it did. -/
def placeKeepsSpec : ChangeSpec := { name := "placeKeeps", fn := fun _ => fun
  | [d] => { results := [.lit (.bool true)], args := [d] }
  | _ => none }
def placeKeepsRow : OpenClaim := { program := "ythkehbdljckbdaa", sum := "8bc62605840edd617278ac574a30c9f0837416bffd7333fcf76f4c37ea22f82f", func := "switchboard/switchboardlaw17.PlaceKeeps", spec := "placeKeeps", unfollowed := true, recurses := true, apart := false }
def PlaceKeepsSaid : Prop := placeKeepsRow.holds Try.pinned (OpenSpec.ofChange placeKeepsSpec)

/-- ITS FALSE NEIGHBOUR: 'it returns false'. Refute it at one input. -/
def placeKeepsWrong : ChangeSpec := { name := "placeKeeps", fn := fun _ => fun
  | [d] => { results := [.lit (.bool false)], args := [d] }
  | _ => none }
def PlaceKeepsWrongFalsely : Prop := placeKeepsRow.holds Try.pinned (OpenSpec.ofChange placeKeepsWrong)

/-- 'switchboardlaw17.PlaceBack': WHATEVER THE INPUT: true; the input reads as it did. -/
def placeBackSpec : ChangeSpec := { name := "placeBack", fn := fun _ => fun
  | [d1, d2, d3] => { results := [.lit (.bool true)], args := [d1, d2, d3] }
  | _ => none }
def placeBackRow : OpenClaim := { program := "ythkehbdljckbdaa", sum := "8bc62605840edd617278ac574a30c9f0837416bffd7333fcf76f4c37ea22f82f", func := "switchboard/switchboardlaw17.PlaceBack", spec := "placeBack", unfollowed := true, recurses := true, apart := false }
def PlaceBackSaid : Prop := placeBackRow.holds Try.pinned (OpenSpec.ofChange placeBackSpec)

/-- ITS FALSE NEIGHBOUR: 'it returns false'. Refute it at one input. -/
def placeBackWrong : ChangeSpec := { name := "placeBack", fn := fun _ => fun
  | [d1, d2, d3] => { results := [.lit (.bool false)], args := [d1, d2, d3] }
  | _ => none }
def PlaceBackWrongFalsely : Prop := placeBackRow.holds Try.pinned (OpenSpec.ofChange placeBackWrong)

/-- 'switchboardlaw17.PlaceOthers': WHATEVER THE INPUT: true; the input reads as it did. -/
def placeOthersSpec : ChangeSpec := { name := "placeOthers", fn := fun _ => fun
  | [d1, d2, d3] => { results := [.lit (.bool true)], args := [d1, d2, d3] }
  | _ => none }
def placeOthersRow : OpenClaim := { program := "ythkehbdljckbdaa", sum := "8bc62605840edd617278ac574a30c9f0837416bffd7333fcf76f4c37ea22f82f", func := "switchboard/switchboardlaw17.PlaceOthers", spec := "placeOthers", unfollowed := true, recurses := true, apart := false }
def PlaceOthersSaid : Prop := placeOthersRow.holds Try.pinned (OpenSpec.ofChange placeOthersSpec)

/-- ITS FALSE NEIGHBOUR: 'it returns false'. Refute it at one input. -/
def placeOthersWrong : ChangeSpec := { name := "placeOthers", fn := fun _ => fun
  | [d1, d2, d3] => { results := [.lit (.bool false)], args := [d1, d2, d3] }
  | _ => none }
def PlaceOthersWrongFalsely : Prop := placeOthersRow.holds Try.pinned (OpenSpec.ofChange placeOthersWrong)

/-- 'switchboardlaw17.PlacePicks': WHATEVER THE INPUT: true; the input reads as it did. -/
def placePicksSpec : ChangeSpec := { name := "placePicks", fn := fun _ => fun
  | [d1, d2, d3, d4] => { results := [.lit (.bool true)], args := [d1, d2, d3, d4] }
  | _ => none }
def placePicksRow : OpenClaim := { program := "ythkehbdljckbdaa", sum := "8bc62605840edd617278ac574a30c9f0837416bffd7333fcf76f4c37ea22f82f", func := "switchboard/switchboardlaw17.PlacePicks", spec := "placePicks", unfollowed := true, recurses := true, apart := false }
def PlacePicksSaid : Prop := placePicksRow.holds Try.pinned (OpenSpec.ofChange placePicksSpec)

/-- ITS FALSE NEIGHBOUR: 'it returns false'. Refute it at one input. -/
def placePicksWrong : ChangeSpec := { name := "placePicks", fn := fun _ => fun
  | [d1, d2, d3, d4] => { results := [.lit (.bool false)], args := [d1, d2, d3, d4] }
  | _ => none }
def PlacePicksWrongFalsely : Prop := placePicksRow.holds Try.pinned (OpenSpec.ofChange placePicksWrong)

/-- 'switchboardlaw17.PlaceAll': WHATEVER THE INPUT: true; the input reads as it did. -/
def placeAllSpec : ChangeSpec := { name := "placeAll", fn := fun _ => fun
  | [d1, d2, d3] => { results := [.lit (.bool true)], args := [d1, d2, d3] }
  | _ => none }
def placeAllRow : OpenClaim := { program := "ythkehbdljckbdaa", sum := "8bc62605840edd617278ac574a30c9f0837416bffd7333fcf76f4c37ea22f82f", func := "switchboard/switchboardlaw17.PlaceAll", spec := "placeAll", unfollowed := true, recurses := true, apart := false }
def PlaceAllSaid : Prop := placeAllRow.holds Try.pinned (OpenSpec.ofChange placeAllSpec)

/-- ITS FALSE NEIGHBOUR: 'it returns false'. Refute it at one input. -/
def placeAllWrong : ChangeSpec := { name := "placeAll", fn := fun _ => fun
  | [d1, d2, d3] => { results := [.lit (.bool false)], args := [d1, d2, d3] }
  | _ => none }
def PlaceAllWrongFalsely : Prop := placeAllRow.holds Try.pinned (OpenSpec.ofChange placeAllWrong)

/-- 'switchboardlaw22.MoveBegins': WHATEVER THE INPUT: true; the input reads as it did. -/
def moveBeginsSpec : ChangeSpec := { name := "moveBegins", fn := fun _ => fun
  | [d1, d2, d3, d4, d5, d6] => { results := [.lit (.bool true)], args := [d1, d2, d3, d4, d5, d6] }
  | _ => none }
def moveBeginsRow : OpenClaim := { program := "ythkehbdljckbdaa", sum := "8bc62605840edd617278ac574a30c9f0837416bffd7333fcf76f4c37ea22f82f", func := "switchboard/switchboardlaw22.MoveBegins", spec := "moveBegins", inPlace := ["internal/abi.NoEscape", "internal/bytealg.MakeNoZero"], recurses := true, apart := false }
def MoveBeginsSaid : Prop := moveBeginsRow.holds Try.pinned (OpenSpec.ofChange moveBeginsSpec)

/-- ITS FALSE NEIGHBOUR: 'it returns false'. Refute it at one input. -/
def moveBeginsWrong : ChangeSpec := { name := "moveBegins", fn := fun _ => fun
  | [d1, d2, d3, d4, d5, d6] => { results := [.lit (.bool false)], args := [d1, d2, d3, d4, d5, d6] }
  | _ => none }
def MoveBeginsWrongFalsely : Prop := moveBeginsRow.holds Try.pinned (OpenSpec.ofChange moveBeginsWrong)

/-- 'switchboardlaw22.MovePieces': WHATEVER THE INPUT: true; the input reads as it did. -/
def movePiecesSpec : ChangeSpec := { name := "movePieces", fn := fun _ => fun
  | [d1, d2, d3] => { results := [.lit (.bool true)], args := [d1, d2, d3] }
  | _ => none }
def movePiecesRow : OpenClaim := { program := "ythkehbdljckbdaa", sum := "8bc62605840edd617278ac574a30c9f0837416bffd7333fcf76f4c37ea22f82f", func := "switchboard/switchboardlaw22.MovePieces", spec := "movePieces", inPlace := ["internal/abi.NoEscape", "internal/bytealg.MakeNoZero"], recurses := true, apart := false }
def MovePiecesSaid : Prop := movePiecesRow.holds Try.pinned (OpenSpec.ofChange movePiecesSpec)

/-- ITS FALSE NEIGHBOUR: 'it returns false'. Refute it at one input. -/
def movePiecesWrong : ChangeSpec := { name := "movePieces", fn := fun _ => fun
  | [d1, d2, d3] => { results := [.lit (.bool false)], args := [d1, d2, d3] }
  | _ => none }
def MovePiecesWrongFalsely : Prop := movePiecesRow.holds Try.pinned (OpenSpec.ofChange movePiecesWrong)

/-- 'switchboardlaw22.MoveWhole': WHATEVER THE INPUT: true; the input reads as it did. -/
def moveWholeSpec : ChangeSpec := { name := "moveWhole", fn := fun _ => fun
  | [d1, d2, d3] => { results := [.lit (.bool true)], args := [d1, d2, d3] }
  | _ => none }
def moveWholeRow : OpenClaim := { program := "ythkehbdljckbdaa", sum := "8bc62605840edd617278ac574a30c9f0837416bffd7333fcf76f4c37ea22f82f", func := "switchboard/switchboardlaw22.MoveWhole", spec := "moveWhole", inPlace := ["internal/abi.NoEscape", "internal/bytealg.MakeNoZero"], recurses := true, apart := false }
def MoveWholeSaid : Prop := moveWholeRow.holds Try.pinned (OpenSpec.ofChange moveWholeSpec)

/-- ITS FALSE NEIGHBOUR: 'it returns false'. Refute it at one input. -/
def moveWholeWrong : ChangeSpec := { name := "moveWhole", fn := fun _ => fun
  | [d1, d2, d3] => { results := [.lit (.bool false)], args := [d1, d2, d3] }
  | _ => none }
def MoveWholeWrongFalsely : Prop := moveWholeRow.holds Try.pinned (OpenSpec.ofChange moveWholeWrong)

/-- 'switchboardlaw22.MoveWrong': WHATEVER THE INPUT: true; the input reads as it did. -/
def moveWrongSpec : ChangeSpec := { name := "moveWrong", fn := fun _ => fun
  | [d1, d2, d3, d4] => { results := [.lit (.bool true)], args := [d1, d2, d3, d4] }
  | _ => none }
def moveWrongRow : OpenClaim := { program := "ythkehbdljckbdaa", sum := "8bc62605840edd617278ac574a30c9f0837416bffd7333fcf76f4c37ea22f82f", func := "switchboard/switchboardlaw22.MoveWrong", spec := "moveWrong", inPlace := ["internal/abi.NoEscape", "internal/bytealg.MakeNoZero"], recurses := true, apart := false }
def MoveWrongSaid : Prop := moveWrongRow.holds Try.pinned (OpenSpec.ofChange moveWrongSpec)

/-- ITS FALSE NEIGHBOUR: 'it returns false'. Refute it at one input. -/
def moveWrongWrong : ChangeSpec := { name := "moveWrong", fn := fun _ => fun
  | [d1, d2, d3, d4] => { results := [.lit (.bool false)], args := [d1, d2, d3, d4] }
  | _ => none }
def MoveWrongWrongFalsely : Prop := moveWrongRow.holds Try.pinned (OpenSpec.ofChange moveWrongWrong)

/-- 'switchboardlaw22.MoveMany': WHATEVER THE INPUT: true; the input reads as it did. -/
def moveManySpec : ChangeSpec := { name := "moveMany", fn := fun _ => fun
  | [d1, d2] => { results := [.lit (.bool true)], args := [d1, d2] }
  | _ => none }
def moveManyRow : OpenClaim := { program := "ythkehbdljckbdaa", sum := "8bc62605840edd617278ac574a30c9f0837416bffd7333fcf76f4c37ea22f82f", func := "switchboard/switchboardlaw22.MoveMany", spec := "moveMany", inPlace := ["internal/abi.NoEscape", "internal/bytealg.MakeNoZero"], recurses := true, apart := false }
def MoveManySaid : Prop := moveManyRow.holds Try.pinned (OpenSpec.ofChange moveManySpec)

/-- ITS FALSE NEIGHBOUR: 'it returns false'. Refute it at one input. -/
def moveManyWrong : ChangeSpec := { name := "moveMany", fn := fun _ => fun
  | [d1, d2] => { results := [.lit (.bool false)], args := [d1, d2] }
  | _ => none }
def MoveManyWrongFalsely : Prop := moveManyRow.holds Try.pinned (OpenSpec.ofChange moveManyWrong)

/-- 'switchboardlaw22.MoveEnds': WHATEVER THE INPUT: true; the input reads as it did. -/
def moveEndsSpec : ChangeSpec := { name := "moveEnds", fn := fun _ => fun
  | [d1, d2] => { results := [.lit (.bool true)], args := [d1, d2] }
  | _ => none }
def moveEndsRow : OpenClaim := { program := "ythkehbdljckbdaa", sum := "8bc62605840edd617278ac574a30c9f0837416bffd7333fcf76f4c37ea22f82f", func := "switchboard/switchboardlaw22.MoveEnds", spec := "moveEnds", inPlace := ["internal/abi.NoEscape", "internal/bytealg.MakeNoZero"], recurses := true, apart := false }
def MoveEndsSaid : Prop := moveEndsRow.holds Try.pinned (OpenSpec.ofChange moveEndsSpec)

/-- ITS FALSE NEIGHBOUR: 'it returns false'. Refute it at one input. -/
def moveEndsWrong : ChangeSpec := { name := "moveEnds", fn := fun _ => fun
  | [d1, d2] => { results := [.lit (.bool false)], args := [d1, d2] }
  | _ => none }
def MoveEndsWrongFalsely : Prop := moveEndsRow.holds Try.pinned (OpenSpec.ofChange moveEndsWrong)

/-- 'switchboardlaw22.MoveSteps': WHATEVER THE INPUT: true; the input reads as it did. -/
def moveStepsSpec : ChangeSpec := { name := "moveSteps", fn := fun _ => fun
  | [d1, d2, d3, d4, d5] => { results := [.lit (.bool true)], args := [d1, d2, d3, d4, d5] }
  | _ => none }
def moveStepsRow : OpenClaim := { program := "ythkehbdljckbdaa", sum := "8bc62605840edd617278ac574a30c9f0837416bffd7333fcf76f4c37ea22f82f", func := "switchboard/switchboardlaw22.MoveSteps", spec := "moveSteps", inPlace := ["internal/abi.NoEscape", "internal/bytealg.MakeNoZero"], recurses := true, apart := false }
def MoveStepsSaid : Prop := moveStepsRow.holds Try.pinned (OpenSpec.ofChange moveStepsSpec)

/-- ITS FALSE NEIGHBOUR: 'it returns false'. Refute it at one input. -/
def moveStepsWrong : ChangeSpec := { name := "moveSteps", fn := fun _ => fun
  | [d1, d2, d3, d4, d5] => { results := [.lit (.bool false)], args := [d1, d2, d3, d4, d5] }
  | _ => none }
def MoveStepsWrongFalsely : Prop := moveStepsRow.holds Try.pinned (OpenSpec.ofChange moveStepsWrong)

/- THE SECOND FORM. 'bulk': how many values and letters a reading holds, each counted each time it is reached (what is shared counts as often as it is met; a slice's spare places count too). A statement '..UptoSaid' is the law's where the arguments, and the package variables that the reading takes, are together of bulk at most 1048576: NARROWER than '..Said'. Prove '..Said' where nothing that the law and all that it calls make is longer than what came in: it says more and counts as full. Else prove '..UptoSaid'. A law counts once. -/
mutual
def uptoBulk {H : Type} : DataW H → Nat
  | .lit (.string bytes) => bytes.length + 1
  | .lit _ => 1
  | .nil => 1
  | .ptr d => uptoBulk d + 1
  | .slice elems spare => uptoBulkAll elems + uptoBulkAll spare + 1
  | .agg parts => uptoBulkAll parts + 1
  | .iface _ d => uptoBulk d + 1
  | .map entries => uptoBulkEntries entries + 1
  | .held _ => 1
def uptoBulkAll {H : Type} : List (DataW H) → Nat
  | [] => 0
  | d :: r => uptoBulk d + uptoBulkAll r
def uptoBulkEntries {H : Type} : List (Lit × DataW H) → Nat
  | [] => 0
  | x :: r => uptoBulkEntry x + uptoBulkEntries r
def uptoBulkEntry {H : Type} : Lit × DataW H → Nat
  | (.string bytes, d) => bytes.length + uptoBulk d + 1
  | (_, d) => uptoBulk d + 1
 end
def uptoSmall : (H : Type) → List (DataW H) → Bool := fun _ ds => decide (uptoBulkAll ds ≤ 1048576)
def OpenSpec.upto (s : _root_.Go.ChangeSpec) : _root_.Go.OpenSpec := { _root_.Go.OpenSpec.ofChange s with cond := some uptoSmall }

/-- 'switchboardlaw17.PlaceTurns', WHERE WHAT IT READS IS OF BULK AT MOST 1048576: true; the input reads as it did. -/
def placeTurnsUptoRow : OpenClaim := { program := "ythkehbdljckbdaa", sum := "8bc62605840edd617278ac574a30c9f0837416bffd7333fcf76f4c37ea22f82f", func := "switchboard/switchboardlaw17.PlaceTurns", spec := "placeTurns", unfollowed := true, recurses := true, apart := false, narrowed := true }
def PlaceTurnsUptoSaid : Prop := placeTurnsUptoRow.holds Try.pinned (OpenSpec.upto placeTurnsSpec)

/-- 'switchboardlaw17.PlaceKeeps', WHERE WHAT IT READS IS OF BULK AT MOST 1048576: true; the input reads as it did. -/
def placeKeepsUptoRow : OpenClaim := { program := "ythkehbdljckbdaa", sum := "8bc62605840edd617278ac574a30c9f0837416bffd7333fcf76f4c37ea22f82f", func := "switchboard/switchboardlaw17.PlaceKeeps", spec := "placeKeeps", unfollowed := true, recurses := true, apart := false, narrowed := true }
def PlaceKeepsUptoSaid : Prop := placeKeepsUptoRow.holds Try.pinned (OpenSpec.upto placeKeepsSpec)

/-- 'switchboardlaw17.PlaceBack', WHERE WHAT IT READS IS OF BULK AT MOST 1048576: true; the input reads as it did. -/
def placeBackUptoRow : OpenClaim := { program := "ythkehbdljckbdaa", sum := "8bc62605840edd617278ac574a30c9f0837416bffd7333fcf76f4c37ea22f82f", func := "switchboard/switchboardlaw17.PlaceBack", spec := "placeBack", unfollowed := true, recurses := true, apart := false, narrowed := true }
def PlaceBackUptoSaid : Prop := placeBackUptoRow.holds Try.pinned (OpenSpec.upto placeBackSpec)

/-- 'switchboardlaw17.PlaceOthers', WHERE WHAT IT READS IS OF BULK AT MOST 1048576: true; the input reads as it did. -/
def placeOthersUptoRow : OpenClaim := { program := "ythkehbdljckbdaa", sum := "8bc62605840edd617278ac574a30c9f0837416bffd7333fcf76f4c37ea22f82f", func := "switchboard/switchboardlaw17.PlaceOthers", spec := "placeOthers", unfollowed := true, recurses := true, apart := false, narrowed := true }
def PlaceOthersUptoSaid : Prop := placeOthersUptoRow.holds Try.pinned (OpenSpec.upto placeOthersSpec)

/-- 'switchboardlaw17.PlacePicks', WHERE WHAT IT READS IS OF BULK AT MOST 1048576: true; the input reads as it did. -/
def placePicksUptoRow : OpenClaim := { program := "ythkehbdljckbdaa", sum := "8bc62605840edd617278ac574a30c9f0837416bffd7333fcf76f4c37ea22f82f", func := "switchboard/switchboardlaw17.PlacePicks", spec := "placePicks", unfollowed := true, recurses := true, apart := false, narrowed := true }
def PlacePicksUptoSaid : Prop := placePicksUptoRow.holds Try.pinned (OpenSpec.upto placePicksSpec)

/-- 'switchboardlaw17.PlaceAll', WHERE WHAT IT READS IS OF BULK AT MOST 1048576: true; the input reads as it did. -/
def placeAllUptoRow : OpenClaim := { program := "ythkehbdljckbdaa", sum := "8bc62605840edd617278ac574a30c9f0837416bffd7333fcf76f4c37ea22f82f", func := "switchboard/switchboardlaw17.PlaceAll", spec := "placeAll", unfollowed := true, recurses := true, apart := false, narrowed := true }
def PlaceAllUptoSaid : Prop := placeAllUptoRow.holds Try.pinned (OpenSpec.upto placeAllSpec)

/-- 'switchboardlaw22.MoveBegins', WHERE WHAT IT READS IS OF BULK AT MOST 1048576: true; the input reads as it did. -/
def moveBeginsUptoRow : OpenClaim := { program := "ythkehbdljckbdaa", sum := "8bc62605840edd617278ac574a30c9f0837416bffd7333fcf76f4c37ea22f82f", func := "switchboard/switchboardlaw22.MoveBegins", spec := "moveBegins", inPlace := ["internal/abi.NoEscape", "internal/bytealg.MakeNoZero"], recurses := true, apart := false, narrowed := true }
def MoveBeginsUptoSaid : Prop := moveBeginsUptoRow.holds Try.pinned (OpenSpec.upto moveBeginsSpec)

/-- 'switchboardlaw22.MovePieces', WHERE WHAT IT READS IS OF BULK AT MOST 1048576: true; the input reads as it did. -/
def movePiecesUptoRow : OpenClaim := { program := "ythkehbdljckbdaa", sum := "8bc62605840edd617278ac574a30c9f0837416bffd7333fcf76f4c37ea22f82f", func := "switchboard/switchboardlaw22.MovePieces", spec := "movePieces", inPlace := ["internal/abi.NoEscape", "internal/bytealg.MakeNoZero"], recurses := true, apart := false, narrowed := true }
def MovePiecesUptoSaid : Prop := movePiecesUptoRow.holds Try.pinned (OpenSpec.upto movePiecesSpec)

/-- 'switchboardlaw22.MoveWhole', WHERE WHAT IT READS IS OF BULK AT MOST 1048576: true; the input reads as it did. -/
def moveWholeUptoRow : OpenClaim := { program := "ythkehbdljckbdaa", sum := "8bc62605840edd617278ac574a30c9f0837416bffd7333fcf76f4c37ea22f82f", func := "switchboard/switchboardlaw22.MoveWhole", spec := "moveWhole", inPlace := ["internal/abi.NoEscape", "internal/bytealg.MakeNoZero"], recurses := true, apart := false, narrowed := true }
def MoveWholeUptoSaid : Prop := moveWholeUptoRow.holds Try.pinned (OpenSpec.upto moveWholeSpec)

/-- 'switchboardlaw22.MoveWrong', WHERE WHAT IT READS IS OF BULK AT MOST 1048576: true; the input reads as it did. -/
def moveWrongUptoRow : OpenClaim := { program := "ythkehbdljckbdaa", sum := "8bc62605840edd617278ac574a30c9f0837416bffd7333fcf76f4c37ea22f82f", func := "switchboard/switchboardlaw22.MoveWrong", spec := "moveWrong", inPlace := ["internal/abi.NoEscape", "internal/bytealg.MakeNoZero"], recurses := true, apart := false, narrowed := true }
def MoveWrongUptoSaid : Prop := moveWrongUptoRow.holds Try.pinned (OpenSpec.upto moveWrongSpec)

/-- 'switchboardlaw22.MoveMany', WHERE WHAT IT READS IS OF BULK AT MOST 1048576: true; the input reads as it did. -/
def moveManyUptoRow : OpenClaim := { program := "ythkehbdljckbdaa", sum := "8bc62605840edd617278ac574a30c9f0837416bffd7333fcf76f4c37ea22f82f", func := "switchboard/switchboardlaw22.MoveMany", spec := "moveMany", inPlace := ["internal/abi.NoEscape", "internal/bytealg.MakeNoZero"], recurses := true, apart := false, narrowed := true }
def MoveManyUptoSaid : Prop := moveManyUptoRow.holds Try.pinned (OpenSpec.upto moveManySpec)

/-- 'switchboardlaw22.MoveEnds', WHERE WHAT IT READS IS OF BULK AT MOST 1048576: true; the input reads as it did. -/
def moveEndsUptoRow : OpenClaim := { program := "ythkehbdljckbdaa", sum := "8bc62605840edd617278ac574a30c9f0837416bffd7333fcf76f4c37ea22f82f", func := "switchboard/switchboardlaw22.MoveEnds", spec := "moveEnds", inPlace := ["internal/abi.NoEscape", "internal/bytealg.MakeNoZero"], recurses := true, apart := false, narrowed := true }
def MoveEndsUptoSaid : Prop := moveEndsUptoRow.holds Try.pinned (OpenSpec.upto moveEndsSpec)

/-- 'switchboardlaw22.MoveSteps', WHERE WHAT IT READS IS OF BULK AT MOST 1048576: true; the input reads as it did. -/
def moveStepsUptoRow : OpenClaim := { program := "ythkehbdljckbdaa", sum := "8bc62605840edd617278ac574a30c9f0837416bffd7333fcf76f4c37ea22f82f", func := "switchboard/switchboardlaw22.MoveSteps", spec := "moveSteps", inPlace := ["internal/abi.NoEscape", "internal/bytealg.MakeNoZero"], recurses := true, apart := false, narrowed := true }
def MoveStepsUptoSaid : Prop := moveStepsUptoRow.holds Try.pinned (OpenSpec.upto moveStepsSpec)

end Rows
end Go.Proofs.Ythkehbdljckbdaa
