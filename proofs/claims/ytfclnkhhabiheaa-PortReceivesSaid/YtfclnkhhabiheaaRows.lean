/-
  No cell of these rows narrows 'for every input' (looked for: loops, veiled, ifaces, maps, wideKeys, modest, calm, conditions, laid).
  DERIVED. THE GIVEN ROWS OF THIS SEAT. 6 by the template 'for every input the law returns true; each argument reads behind the call as it read before'; 0 by the template 'total and deterministic' (their statements: YtfclnkhhabiheaaTotals.lean).
  GIVEN WITH THE SEED: the statements are not yours to turn. If you find one false, say at which input.
  Laid BY PROGRAM, IN A SANDBOX (cutbox-rows.mjs): the forced cells as the released guide's own fill.sh prints them over the translation bcc848f637b30ae1… (all of the seat's roots in one cut). By AI agents, Wed Nov 11 2026. No macro, syntax, notation, axiom, sorry.
-/
import Derived.Test.YtfclnkhhabiheaaChecked
import GoSem.Claim
import GoSem.ClaimJoined
import GoSem.ClaimMapViews
import Derived.JoinedTies
import Derived.KernelRfl
namespace Go.Proofs.Ytfclnkhhabiheaa
/- THE CELL 'sum', in the pinned program and in every row, IS THE sha256 OF THE DUMP (.gsa) THAT YtfclnkhhabiheaaProg.lean LOADS. Nothing in Lean hashes anything: it is a label: what it is worth is what the hold of that sum in a sandbox is worth. -/
noncomputable def Try.pinned : Pinned := { name := "ytfclnkhhabiheaa", sum := "bcc848f637b30ae1af483b044be1cbb339cf5eb663fbf8da289e23efd8f36c8e", checked := Try.checked }
namespace Rows
def none {H : Type} : Left H := { results := [], args := [] }

/-- 'switchboardlaw23.PortPacks': WHATEVER THE INPUT: true; the input reads as it did. -/
def portPacksSpec : ChangeSpec := { name := "portPacks", fn := fun _ => fun
  | [d1, d2, d3, d4] => { results := [.lit (.bool true)], args := [d1, d2, d3, d4] }
  | _ => none }
def portPacksRow : OpenClaim := { program := "ytfclnkhhabiheaa", sum := "bcc848f637b30ae1af483b044be1cbb339cf5eb663fbf8da289e23efd8f36c8e", func := "switchboard/switchboardlaw23.PortPacks", spec := "portPacks", unfollowed := true, recurses := true, apart := false }
def PortPacksSaid : Prop := portPacksRow.holds Try.pinned (OpenSpec.ofChange portPacksSpec)

/-- ITS FALSE NEIGHBOUR: 'it returns false'. Refute it at one input. -/
def portPacksWrong : ChangeSpec := { name := "portPacks", fn := fun _ => fun
  | [d1, d2, d3, d4] => { results := [.lit (.bool false)], args := [d1, d2, d3, d4] }
  | _ => none }
def PortPacksWrongFalsely : Prop := portPacksRow.holds Try.pinned (OpenSpec.ofChange portPacksWrong)

/-- 'switchboardlaw23.PortReceives': WHATEVER THE INPUT: true; the input reads as it did. -/
def portReceivesSpec : ChangeSpec := { name := "portReceives", fn := fun _ => fun
  | [d1, d2] => { results := [.lit (.bool true)], args := [d1, d2] }
  | _ => none }
def portReceivesRow : OpenClaim := { program := "ytfclnkhhabiheaa", sum := "bcc848f637b30ae1af483b044be1cbb339cf5eb663fbf8da289e23efd8f36c8e", func := "switchboard/switchboardlaw23.PortReceives", spec := "portReceives", unfollowed := true, recurses := true, apart := false }
def PortReceivesSaid : Prop := portReceivesRow.holds Try.pinned (OpenSpec.ofChange portReceivesSpec)

/-- ITS FALSE NEIGHBOUR: 'it returns false'. Refute it at one input. -/
def portReceivesWrong : ChangeSpec := { name := "portReceives", fn := fun _ => fun
  | [d1, d2] => { results := [.lit (.bool false)], args := [d1, d2] }
  | _ => none }
def PortReceivesWrongFalsely : Prop := portReceivesRow.holds Try.pinned (OpenSpec.ofChange portReceivesWrong)

/-- 'switchboardlaw23.PortOnce': WHATEVER THE INPUT: true; the input reads as it did. -/
def portOnceSpec : ChangeSpec := { name := "portOnce", fn := fun _ => fun
  | [d] => { results := [.lit (.bool true)], args := [d] }
  | _ => none }
def portOnceRow : OpenClaim := { program := "ytfclnkhhabiheaa", sum := "bcc848f637b30ae1af483b044be1cbb339cf5eb663fbf8da289e23efd8f36c8e", func := "switchboard/switchboardlaw23.PortOnce", spec := "portOnce", unfollowed := true, recurses := true, apart := false }
def PortOnceSaid : Prop := portOnceRow.holds Try.pinned (OpenSpec.ofChange portOnceSpec)

/-- ITS FALSE NEIGHBOUR: 'it returns false'. Refute it at one input. -/
def portOnceWrong : ChangeSpec := { name := "portOnce", fn := fun _ => fun
  | [d] => { results := [.lit (.bool false)], args := [d] }
  | _ => none }
def PortOnceWrongFalsely : Prop := portOnceRow.holds Try.pinned (OpenSpec.ofChange portOnceWrong)

/-- 'switchboardlaw23.PortBusy': WHATEVER THE INPUT: true; the input reads as it did. -/
def portBusySpec : ChangeSpec := { name := "portBusy", fn := fun _ => fun
  | [d] => { results := [.lit (.bool true)], args := [d] }
  | _ => none }
def portBusyRow : OpenClaim := { program := "ytfclnkhhabiheaa", sum := "bcc848f637b30ae1af483b044be1cbb339cf5eb663fbf8da289e23efd8f36c8e", func := "switchboard/switchboardlaw23.PortBusy", spec := "portBusy", unfollowed := true, recurses := true, apart := false }
def PortBusySaid : Prop := portBusyRow.holds Try.pinned (OpenSpec.ofChange portBusySpec)

/-- ITS FALSE NEIGHBOUR: 'it returns false'. Refute it at one input. -/
def portBusyWrong : ChangeSpec := { name := "portBusy", fn := fun _ => fun
  | [d] => { results := [.lit (.bool false)], args := [d] }
  | _ => none }
def PortBusyWrongFalsely : Prop := portBusyRow.holds Try.pinned (OpenSpec.ofChange portBusyWrong)

/-- 'switchboardlaw23.PortBack': WHATEVER THE INPUT: true; the input reads as it did. -/
def portBackSpec : ChangeSpec := { name := "portBack", fn := fun _ => fun
  | [d1, d2, d3, d4, d5] => { results := [.lit (.bool true)], args := [d1, d2, d3, d4, d5] }
  | _ => none }
def portBackRow : OpenClaim := { program := "ytfclnkhhabiheaa", sum := "bcc848f637b30ae1af483b044be1cbb339cf5eb663fbf8da289e23efd8f36c8e", func := "switchboard/switchboardlaw23.PortBack", spec := "portBack", unfollowed := true, recurses := true, apart := false }
def PortBackSaid : Prop := portBackRow.holds Try.pinned (OpenSpec.ofChange portBackSpec)

/-- ITS FALSE NEIGHBOUR: 'it returns false'. Refute it at one input. -/
def portBackWrong : ChangeSpec := { name := "portBack", fn := fun _ => fun
  | [d1, d2, d3, d4, d5] => { results := [.lit (.bool false)], args := [d1, d2, d3, d4, d5] }
  | _ => none }
def PortBackWrongFalsely : Prop := portBackRow.holds Try.pinned (OpenSpec.ofChange portBackWrong)

/-- 'switchboardlaw23.PortFlows': WHATEVER THE INPUT: true; the input reads as it did. -/
def portFlowsSpec : ChangeSpec := { name := "portFlows", fn := fun _ => fun
  | [d] => { results := [.lit (.bool true)], args := [d] }
  | _ => none }
def portFlowsRow : OpenClaim := { program := "ytfclnkhhabiheaa", sum := "bcc848f637b30ae1af483b044be1cbb339cf5eb663fbf8da289e23efd8f36c8e", func := "switchboard/switchboardlaw23.PortFlows", spec := "portFlows", unfollowed := true, recurses := true, apart := false }
def PortFlowsSaid : Prop := portFlowsRow.holds Try.pinned (OpenSpec.ofChange portFlowsSpec)

/-- ITS FALSE NEIGHBOUR: 'it returns false'. Refute it at one input. -/
def portFlowsWrong : ChangeSpec := { name := "portFlows", fn := fun _ => fun
  | [d] => { results := [.lit (.bool false)], args := [d] }
  | _ => none }
def PortFlowsWrongFalsely : Prop := portFlowsRow.holds Try.pinned (OpenSpec.ofChange portFlowsWrong)

/- THE SECOND FORM. 'bulk': how many values and letters a reading holds, each counted each time it is reached (what is shared counts as often as it is met; a slice's spare places count too). A statement '..UptoSaid' is the law's where the arguments, and the package variables that the reading takes, are together of bulk at most 1048576: NARROWER than '..Said'. Prove '..Said' where nothing that the law and all that it calls make is longer than what came in: it says more and counts as full. Else prove '..UptoSaid'. A law counts once. -/
mutual
def uptoBulk {H : Type} : DataW H → Nat
  | .lit (.string bytes) => bytes.length + 1
  | .lit _ => 1
  | .nil => 1
  | .ptr d => uptoBulk d + 1
  | .slice elems spare => uptoBulkAll elems + uptoBulkAll spare + 1
  | .agg parts => uptoBulkAll parts + 1
  | .iface _ d => uptoBulk d + 1
  | .map entries => uptoBulkEntries entries + 1
  | .held _ => 1
def uptoBulkAll {H : Type} : List (DataW H) → Nat
  | [] => 0
  | d :: r => uptoBulk d + uptoBulkAll r
def uptoBulkEntries {H : Type} : List (Lit × DataW H) → Nat
  | [] => 0
  | x :: r => uptoBulkEntry x + uptoBulkEntries r
def uptoBulkEntry {H : Type} : Lit × DataW H → Nat
  | (.string bytes, d) => bytes.length + uptoBulk d + 1
  | (_, d) => uptoBulk d + 1
 end
def uptoSmall : (H : Type) → List (DataW H) → Bool := fun _ ds => decide (uptoBulkAll ds ≤ 1048576)
def OpenSpec.upto (s : _root_.Go.ChangeSpec) : _root_.Go.OpenSpec := { _root_.Go.OpenSpec.ofChange s with cond := some uptoSmall }

/-- 'switchboardlaw23.PortPacks', WHERE WHAT IT READS IS OF BULK AT MOST 1048576: true; the input reads as it did. -/
def portPacksUptoRow : OpenClaim := { program := "ytfclnkhhabiheaa", sum := "bcc848f637b30ae1af483b044be1cbb339cf5eb663fbf8da289e23efd8f36c8e", func := "switchboard/switchboardlaw23.PortPacks", spec := "portPacks", unfollowed := true, recurses := true, apart := false, narrowed := true }
def PortPacksUptoSaid : Prop := portPacksUptoRow.holds Try.pinned (OpenSpec.upto portPacksSpec)

/-- 'switchboardlaw23.PortReceives', WHERE WHAT IT READS IS OF BULK AT MOST 1048576: true; the input reads as it did. -/
def portReceivesUptoRow : OpenClaim := { program := "ytfclnkhhabiheaa", sum := "bcc848f637b30ae1af483b044be1cbb339cf5eb663fbf8da289e23efd8f36c8e", func := "switchboard/switchboardlaw23.PortReceives", spec := "portReceives", unfollowed := true, recurses := true, apart := false, narrowed := true }
def PortReceivesUptoSaid : Prop := portReceivesUptoRow.holds Try.pinned (OpenSpec.upto portReceivesSpec)

/-- 'switchboardlaw23.PortOnce', WHERE WHAT IT READS IS OF BULK AT MOST 1048576: true; the input reads as it did. -/
def portOnceUptoRow : OpenClaim := { program := "ytfclnkhhabiheaa", sum := "bcc848f637b30ae1af483b044be1cbb339cf5eb663fbf8da289e23efd8f36c8e", func := "switchboard/switchboardlaw23.PortOnce", spec := "portOnce", unfollowed := true, recurses := true, apart := false, narrowed := true }
def PortOnceUptoSaid : Prop := portOnceUptoRow.holds Try.pinned (OpenSpec.upto portOnceSpec)

/-- 'switchboardlaw23.PortBusy', WHERE WHAT IT READS IS OF BULK AT MOST 1048576: true; the input reads as it did. -/
def portBusyUptoRow : OpenClaim := { program := "ytfclnkhhabiheaa", sum := "bcc848f637b30ae1af483b044be1cbb339cf5eb663fbf8da289e23efd8f36c8e", func := "switchboard/switchboardlaw23.PortBusy", spec := "portBusy", unfollowed := true, recurses := true, apart := false, narrowed := true }
def PortBusyUptoSaid : Prop := portBusyUptoRow.holds Try.pinned (OpenSpec.upto portBusySpec)

/-- 'switchboardlaw23.PortBack', WHERE WHAT IT READS IS OF BULK AT MOST 1048576: true; the input reads as it did. -/
def portBackUptoRow : OpenClaim := { program := "ytfclnkhhabiheaa", sum := "bcc848f637b30ae1af483b044be1cbb339cf5eb663fbf8da289e23efd8f36c8e", func := "switchboard/switchboardlaw23.PortBack", spec := "portBack", unfollowed := true, recurses := true, apart := false, narrowed := true }
def PortBackUptoSaid : Prop := portBackUptoRow.holds Try.pinned (OpenSpec.upto portBackSpec)

/-- 'switchboardlaw23.PortFlows', WHERE WHAT IT READS IS OF BULK AT MOST 1048576: true; the input reads as it did. -/
def portFlowsUptoRow : OpenClaim := { program := "ytfclnkhhabiheaa", sum := "bcc848f637b30ae1af483b044be1cbb339cf5eb663fbf8da289e23efd8f36c8e", func := "switchboard/switchboardlaw23.PortFlows", spec := "portFlows", unfollowed := true, recurses := true, apart := false, narrowed := true }
def PortFlowsUptoSaid : Prop := portFlowsUptoRow.holds Try.pinned (OpenSpec.upto portFlowsSpec)

end Rows
end Go.Proofs.Ytfclnkhhabiheaa
