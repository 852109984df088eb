/-
  No cell of these rows narrows 'for every input' (looked for: loops, veiled, ifaces, maps, wideKeys, modest, calm, conditions, laid).
  DERIVED. THE GIVEN ROWS OF THIS SEAT. 6 by the template 'for every input the law returns true; each argument reads behind the call as it read before'; 0 by the template 'total and deterministic' (their statements: YtbocnaoihepjfaaGreatTotals.lean).
  GIVEN WITH THE SEED: the statements are not yours to turn. If you find one false, say at which input.
  Laid BY PROGRAM, IN A SANDBOX (cutbox-rows.mjs): the forced cells as the released guide's own fill.sh prints them over the translation c1c29b60775bafed… (all of the seat's roots in one cut). By AI agents, Wed Nov 11 2026. No macro, syntax, notation, axiom, sorry.
-/
import Derived.Test.YtbocnaoihepjfaaGreatChecked
import GoSem.Claim
import GoSem.ClaimJoined
import GoSem.ClaimMapViews
import Derived.JoinedTies
import Derived.KernelRfl
namespace Go.Proofs.YtbocnaoihepjfaaGreat
/- THE CELL 'sum', in the pinned program and in every row, IS THE sha256 OF THE DUMP (.gsa) THAT YtbocnaoihepjfaaGreatProg.lean LOADS. Nothing in Lean hashes anything: it is a label: what it is worth is what the hold of that sum in a sandbox is worth. -/
noncomputable def Tryz.pinned : Pinned := { name := "ytbocnaoihepjfaagreat", sum := "c1c29b60775bafed05203faf76b1cd76ec68d967598c4f674f325086ac0fad5e", checked := Tryz.checked }
namespace Rows
def none {H : Type} : Left H := { results := [], args := [] }

/-- 'switchboardlaw19.FleetBegins': WHATEVER THE INPUT: true; the input reads as it did. -/
def fleetBeginsSpec : ChangeSpec := { name := "fleetBegins", fn := fun _ => fun
  | [d1, d2, d3] => { results := [.lit (.bool true)], args := [d1, d2, d3] }
  | _ => none }
def fleetBeginsRow : OpenClaim := { program := "ytbocnaoihepjfaagreat", sum := "c1c29b60775bafed05203faf76b1cd76ec68d967598c4f674f325086ac0fad5e", func := "switchboard/switchboardlaw19.FleetBegins", spec := "fleetBegins", unfollowed := true, recurses := true, apart := false }
def FleetBeginsSaid : Prop := fleetBeginsRow.holds Tryz.pinned (OpenSpec.ofChange fleetBeginsSpec)

/-- ITS FALSE NEIGHBOUR: 'it returns false'. Refute it at one input. -/
def fleetBeginsWrong : ChangeSpec := { name := "fleetBegins", fn := fun _ => fun
  | [d1, d2, d3] => { results := [.lit (.bool false)], args := [d1, d2, d3] }
  | _ => none }
def FleetBeginsWrongFalsely : Prop := fleetBeginsRow.holds Tryz.pinned (OpenSpec.ofChange fleetBeginsWrong)

/-- 'switchboardlaw19.FleetCounts': WHATEVER THE INPUT: true; the input reads as it did. -/
def fleetCountsSpec : ChangeSpec := { name := "fleetCounts", fn := fun _ => fun
  | [d1, d2, d3] => { results := [.lit (.bool true)], args := [d1, d2, d3] }
  | _ => none }
def fleetCountsRow : OpenClaim := { program := "ytbocnaoihepjfaagreat", sum := "c1c29b60775bafed05203faf76b1cd76ec68d967598c4f674f325086ac0fad5e", func := "switchboard/switchboardlaw19.FleetCounts", spec := "fleetCounts", unfollowed := true, recurses := true, apart := false }
def FleetCountsSaid : Prop := fleetCountsRow.holds Tryz.pinned (OpenSpec.ofChange fleetCountsSpec)

/-- ITS FALSE NEIGHBOUR: 'it returns false'. Refute it at one input. -/
def fleetCountsWrong : ChangeSpec := { name := "fleetCounts", fn := fun _ => fun
  | [d1, d2, d3] => { results := [.lit (.bool false)], args := [d1, d2, d3] }
  | _ => none }
def FleetCountsWrongFalsely : Prop := fleetCountsRow.holds Tryz.pinned (OpenSpec.ofChange fleetCountsWrong)

/-- 'switchboardlaw19.FleetMaps': WHATEVER THE INPUT: true; the input reads as it did. -/
def fleetMapsSpec : ChangeSpec := { name := "fleetMaps", fn := fun _ => fun
  | [d1, d2, d3, d4, d5] => { results := [.lit (.bool true)], args := [d1, d2, d3, d4, d5] }
  | _ => none }
def fleetMapsRow : OpenClaim := { program := "ytbocnaoihepjfaagreat", sum := "c1c29b60775bafed05203faf76b1cd76ec68d967598c4f674f325086ac0fad5e", func := "switchboard/switchboardlaw19.FleetMaps", spec := "fleetMaps", unfollowed := true, recurses := true, apart := false }
def FleetMapsSaid : Prop := fleetMapsRow.holds Tryz.pinned (OpenSpec.ofChange fleetMapsSpec)

/-- ITS FALSE NEIGHBOUR: 'it returns false'. Refute it at one input. -/
def fleetMapsWrong : ChangeSpec := { name := "fleetMaps", fn := fun _ => fun
  | [d1, d2, d3, d4, d5] => { results := [.lit (.bool false)], args := [d1, d2, d3, d4, d5] }
  | _ => none }
def FleetMapsWrongFalsely : Prop := fleetMapsRow.holds Tryz.pinned (OpenSpec.ofChange fleetMapsWrong)

/-- 'switchboardlaw19.FleetTrue': WHATEVER THE INPUT: true; the input reads as it did. -/
def fleetTrueSpec : ChangeSpec := { name := "fleetTrue", fn := fun _ => fun
  | [d1, d2, d3, d4] => { results := [.lit (.bool true)], args := [d1, d2, d3, d4] }
  | _ => none }
def fleetTrueRow : OpenClaim := { program := "ytbocnaoihepjfaagreat", sum := "c1c29b60775bafed05203faf76b1cd76ec68d967598c4f674f325086ac0fad5e", func := "switchboard/switchboardlaw19.FleetTrue", spec := "fleetTrue", unfollowed := true, recurses := true, apart := false }
def FleetTrueSaid : Prop := fleetTrueRow.holds Tryz.pinned (OpenSpec.ofChange fleetTrueSpec)

/-- ITS FALSE NEIGHBOUR: 'it returns false'. Refute it at one input. -/
def fleetTrueWrong : ChangeSpec := { name := "fleetTrue", fn := fun _ => fun
  | [d1, d2, d3, d4] => { results := [.lit (.bool false)], args := [d1, d2, d3, d4] }
  | _ => none }
def FleetTrueWrongFalsely : Prop := fleetTrueRow.holds Tryz.pinned (OpenSpec.ofChange fleetTrueWrong)

/-- 'switchboardlaw19.FleetEnds': WHATEVER THE INPUT: true; the input reads as it did. -/
def fleetEndsSpec : ChangeSpec := { name := "fleetEnds", fn := fun _ => fun
  | [d1, d2, d3, d4] => { results := [.lit (.bool true)], args := [d1, d2, d3, d4] }
  | _ => none }
def fleetEndsRow : OpenClaim := { program := "ytbocnaoihepjfaagreat", sum := "c1c29b60775bafed05203faf76b1cd76ec68d967598c4f674f325086ac0fad5e", func := "switchboard/switchboardlaw19.FleetEnds", spec := "fleetEnds", unfollowed := true, recurses := true, apart := false }
def FleetEndsSaid : Prop := fleetEndsRow.holds Tryz.pinned (OpenSpec.ofChange fleetEndsSpec)

/-- ITS FALSE NEIGHBOUR: 'it returns false'. Refute it at one input. -/
def fleetEndsWrong : ChangeSpec := { name := "fleetEnds", fn := fun _ => fun
  | [d1, d2, d3, d4] => { results := [.lit (.bool false)], args := [d1, d2, d3, d4] }
  | _ => none }
def FleetEndsWrongFalsely : Prop := fleetEndsRow.holds Tryz.pinned (OpenSpec.ofChange fleetEndsWrong)

/-- 'switchboardlaw19.FleetSame': WHATEVER THE INPUT: true; the input reads as it did. -/
def fleetSameSpec : ChangeSpec := { name := "fleetSame", fn := fun _ => fun
  | [d1, d2, d3, d4] => { results := [.lit (.bool true)], args := [d1, d2, d3, d4] }
  | _ => none }
def fleetSameRow : OpenClaim := { program := "ytbocnaoihepjfaagreat", sum := "c1c29b60775bafed05203faf76b1cd76ec68d967598c4f674f325086ac0fad5e", func := "switchboard/switchboardlaw19.FleetSame", spec := "fleetSame", unfollowed := true, recurses := true, apart := false }
def FleetSameSaid : Prop := fleetSameRow.holds Tryz.pinned (OpenSpec.ofChange fleetSameSpec)

/-- ITS FALSE NEIGHBOUR: 'it returns false'. Refute it at one input. -/
def fleetSameWrong : ChangeSpec := { name := "fleetSame", fn := fun _ => fun
  | [d1, d2, d3, d4] => { results := [.lit (.bool false)], args := [d1, d2, d3, d4] }
  | _ => none }
def FleetSameWrongFalsely : Prop := fleetSameRow.holds Tryz.pinned (OpenSpec.ofChange fleetSameWrong)

/- THE SECOND FORM. 'bulk': how many values and letters a reading holds, each counted each time it is reached (what is shared counts as often as it is met; a slice's spare places count too). A statement '..UptoSaid' is the law's where the arguments, and the package variables that the reading takes, are together of bulk at most 1048576: NARROWER than '..Said'. Prove '..Said' where nothing that the law and all that it calls make is longer than what came in: it says more and counts as full. Else prove '..UptoSaid'. A law counts once. -/
mutual
def uptoBulk {H : Type} : DataW H → Nat
  | .lit (.string bytes) => bytes.length + 1
  | .lit _ => 1
  | .nil => 1
  | .ptr d => uptoBulk d + 1
  | .slice elems spare => uptoBulkAll elems + uptoBulkAll spare + 1
  | .agg parts => uptoBulkAll parts + 1
  | .iface _ d => uptoBulk d + 1
  | .map entries => uptoBulkEntries entries + 1
  | .held _ => 1
def uptoBulkAll {H : Type} : List (DataW H) → Nat
  | [] => 0
  | d :: r => uptoBulk d + uptoBulkAll r
def uptoBulkEntries {H : Type} : List (Lit × DataW H) → Nat
  | [] => 0
  | x :: r => uptoBulkEntry x + uptoBulkEntries r
def uptoBulkEntry {H : Type} : Lit × DataW H → Nat
  | (.string bytes, d) => bytes.length + uptoBulk d + 1
  | (_, d) => uptoBulk d + 1
 end
def uptoSmall : (H : Type) → List (DataW H) → Bool := fun _ ds => decide (uptoBulkAll ds ≤ 1048576)
def OpenSpec.upto (s : _root_.Go.ChangeSpec) : _root_.Go.OpenSpec := { _root_.Go.OpenSpec.ofChange s with cond := some uptoSmall }

/-- 'switchboardlaw19.FleetBegins', WHERE WHAT IT READS IS OF BULK AT MOST 1048576: true; the input reads as it did. -/
def fleetBeginsUptoRow : OpenClaim := { program := "ytbocnaoihepjfaagreat", sum := "c1c29b60775bafed05203faf76b1cd76ec68d967598c4f674f325086ac0fad5e", func := "switchboard/switchboardlaw19.FleetBegins", spec := "fleetBegins", unfollowed := true, recurses := true, apart := false, narrowed := true }
def FleetBeginsUptoSaid : Prop := fleetBeginsUptoRow.holds Tryz.pinned (OpenSpec.upto fleetBeginsSpec)

/-- 'switchboardlaw19.FleetCounts', WHERE WHAT IT READS IS OF BULK AT MOST 1048576: true; the input reads as it did. -/
def fleetCountsUptoRow : OpenClaim := { program := "ytbocnaoihepjfaagreat", sum := "c1c29b60775bafed05203faf76b1cd76ec68d967598c4f674f325086ac0fad5e", func := "switchboard/switchboardlaw19.FleetCounts", spec := "fleetCounts", unfollowed := true, recurses := true, apart := false, narrowed := true }
def FleetCountsUptoSaid : Prop := fleetCountsUptoRow.holds Tryz.pinned (OpenSpec.upto fleetCountsSpec)

/-- 'switchboardlaw19.FleetMaps', WHERE WHAT IT READS IS OF BULK AT MOST 1048576: true; the input reads as it did. -/
def fleetMapsUptoRow : OpenClaim := { program := "ytbocnaoihepjfaagreat", sum := "c1c29b60775bafed05203faf76b1cd76ec68d967598c4f674f325086ac0fad5e", func := "switchboard/switchboardlaw19.FleetMaps", spec := "fleetMaps", unfollowed := true, recurses := true, apart := false, narrowed := true }
def FleetMapsUptoSaid : Prop := fleetMapsUptoRow.holds Tryz.pinned (OpenSpec.upto fleetMapsSpec)

/-- 'switchboardlaw19.FleetTrue', WHERE WHAT IT READS IS OF BULK AT MOST 1048576: true; the input reads as it did. -/
def fleetTrueUptoRow : OpenClaim := { program := "ytbocnaoihepjfaagreat", sum := "c1c29b60775bafed05203faf76b1cd76ec68d967598c4f674f325086ac0fad5e", func := "switchboard/switchboardlaw19.FleetTrue", spec := "fleetTrue", unfollowed := true, recurses := true, apart := false, narrowed := true }
def FleetTrueUptoSaid : Prop := fleetTrueUptoRow.holds Tryz.pinned (OpenSpec.upto fleetTrueSpec)

/-- 'switchboardlaw19.FleetEnds', WHERE WHAT IT READS IS OF BULK AT MOST 1048576: true; the input reads as it did. -/
def fleetEndsUptoRow : OpenClaim := { program := "ytbocnaoihepjfaagreat", sum := "c1c29b60775bafed05203faf76b1cd76ec68d967598c4f674f325086ac0fad5e", func := "switchboard/switchboardlaw19.FleetEnds", spec := "fleetEnds", unfollowed := true, recurses := true, apart := false, narrowed := true }
def FleetEndsUptoSaid : Prop := fleetEndsUptoRow.holds Tryz.pinned (OpenSpec.upto fleetEndsSpec)

/-- 'switchboardlaw19.FleetSame', WHERE WHAT IT READS IS OF BULK AT MOST 1048576: true; the input reads as it did. -/
def fleetSameUptoRow : OpenClaim := { program := "ytbocnaoihepjfaagreat", sum := "c1c29b60775bafed05203faf76b1cd76ec68d967598c4f674f325086ac0fad5e", func := "switchboard/switchboardlaw19.FleetSame", spec := "fleetSame", unfollowed := true, recurses := true, apart := false, narrowed := true }
def FleetSameUptoSaid : Prop := fleetSameUptoRow.holds Tryz.pinned (OpenSpec.upto fleetSameSpec)

end Rows
end Go.Proofs.YtbocnaoihepjfaaGreat
