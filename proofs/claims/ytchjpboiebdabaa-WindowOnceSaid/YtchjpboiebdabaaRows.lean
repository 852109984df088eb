/-
  No cell of these rows narrows 'for every input' (looked for: loops, veiled, ifaces, maps, wideKeys, modest, calm, conditions, laid).
  DERIVED. THE GIVEN ROWS OF THIS SEAT. 12 by the template 'for every input the law returns true; each argument reads behind the call as it read before'; 0 by the template 'total and deterministic' (their statements: YtchjpboiebdabaaTotals.lean).
  GIVEN WITH THE SEED: the statements are not yours to turn. If you find one false, say at which input.
  Laid BY PROGRAM, IN A SANDBOX (cutbox-rows.mjs): the forced cells as the released guide's own fill.sh prints them over the translation 3864cf40120440ff… (all of the seat's roots in one cut). By AI agents, Wed Nov 11 2026. No macro, syntax, notation, axiom, sorry.
-/
import Derived.Test.YtchjpboiebdabaaChecked
import GoSem.Claim
import GoSem.ClaimJoined
import GoSem.ClaimMapViews
import Derived.JoinedTies
import Derived.KernelRfl
namespace Go.Proofs.Ytchjpboiebdabaa
/- THE CELL 'sum', in the pinned program and in every row, IS THE sha256 OF THE DUMP (.gsa) THAT YtchjpboiebdabaaProg.lean LOADS. Nothing in Lean hashes anything: it is a label: what it is worth is what the hold of that sum in a sandbox is worth. -/
noncomputable def Try.pinned : Pinned := { name := "ytchjpboiebdabaa", sum := "3864cf40120440ff98cea4ca9c257e520a1f715d38025087cb288bdc71fb9322", checked := Try.checked }
namespace Rows
def none {H : Type} : Left H := { results := [], args := [] }

/-- 'switchboardlaw21.LoadNotes': WHATEVER THE INPUT: true; the input reads as it did. -/
def loadNotesSpec : ChangeSpec := { name := "loadNotes", fn := fun _ => fun
  | [d1, d2, d3, d4] => { results := [.lit (.bool true)], args := [d1, d2, d3, d4] }
  | _ => none }
def loadNotesRow : OpenClaim := { program := "ytchjpboiebdabaa", sum := "3864cf40120440ff98cea4ca9c257e520a1f715d38025087cb288bdc71fb9322", func := "switchboard/switchboardlaw21.LoadNotes", spec := "loadNotes", apart := false }
def LoadNotesSaid : Prop := loadNotesRow.holds Try.pinned (OpenSpec.ofChange loadNotesSpec)

/-- ITS FALSE NEIGHBOUR: 'it returns false'. Refute it at one input. -/
def loadNotesWrong : ChangeSpec := { name := "loadNotes", fn := fun _ => fun
  | [d1, d2, d3, d4] => { results := [.lit (.bool false)], args := [d1, d2, d3, d4] }
  | _ => none }
def LoadNotesWrongFalsely : Prop := loadNotesRow.holds Try.pinned (OpenSpec.ofChange loadNotesWrong)

/-- 'switchboardlaw21.LoadAdds': WHATEVER THE INPUT: true; the input reads as it did. -/
def loadAddsSpec : ChangeSpec := { name := "loadAdds", fn := fun _ => fun
  | [d] => { results := [.lit (.bool true)], args := [d] }
  | _ => none }
def loadAddsRow : OpenClaim := { program := "ytchjpboiebdabaa", sum := "3864cf40120440ff98cea4ca9c257e520a1f715d38025087cb288bdc71fb9322", func := "switchboard/switchboardlaw21.LoadAdds", spec := "loadAdds", apart := false }
def LoadAddsSaid : Prop := loadAddsRow.holds Try.pinned (OpenSpec.ofChange loadAddsSpec)

/-- ITS FALSE NEIGHBOUR: 'it returns false'. Refute it at one input. -/
def loadAddsWrong : ChangeSpec := { name := "loadAdds", fn := fun _ => fun
  | [d] => { results := [.lit (.bool false)], args := [d] }
  | _ => none }
def LoadAddsWrongFalsely : Prop := loadAddsRow.holds Try.pinned (OpenSpec.ofChange loadAddsWrong)

/-- 'switchboardlaw21.LoadSums': WHATEVER THE INPUT: true; the input reads as it did. -/
def loadSumsSpec : ChangeSpec := { name := "loadSums", fn := fun _ => fun
  | [d1, d2] => { results := [.lit (.bool true)], args := [d1, d2] }
  | _ => none }
def loadSumsRow : OpenClaim := { program := "ytchjpboiebdabaa", sum := "3864cf40120440ff98cea4ca9c257e520a1f715d38025087cb288bdc71fb9322", func := "switchboard/switchboardlaw21.LoadSums", spec := "loadSums", apart := false }
def LoadSumsSaid : Prop := loadSumsRow.holds Try.pinned (OpenSpec.ofChange loadSumsSpec)

/-- ITS FALSE NEIGHBOUR: 'it returns false'. Refute it at one input. -/
def loadSumsWrong : ChangeSpec := { name := "loadSums", fn := fun _ => fun
  | [d1, d2] => { results := [.lit (.bool false)], args := [d1, d2] }
  | _ => none }
def LoadSumsWrongFalsely : Prop := loadSumsRow.holds Try.pinned (OpenSpec.ofChange loadSumsWrong)

/-- 'switchboardlaw21.LoadMore': WHATEVER THE INPUT: true; the input reads as it did. -/
def loadMoreSpec : ChangeSpec := { name := "loadMore", fn := fun _ => fun
  | [d1, d2, d3] => { results := [.lit (.bool true)], args := [d1, d2, d3] }
  | _ => none }
def loadMoreRow : OpenClaim := { program := "ytchjpboiebdabaa", sum := "3864cf40120440ff98cea4ca9c257e520a1f715d38025087cb288bdc71fb9322", func := "switchboard/switchboardlaw21.LoadMore", spec := "loadMore", apart := false }
def LoadMoreSaid : Prop := loadMoreRow.holds Try.pinned (OpenSpec.ofChange loadMoreSpec)

/-- ITS FALSE NEIGHBOUR: 'it returns false'. Refute it at one input. -/
def loadMoreWrong : ChangeSpec := { name := "loadMore", fn := fun _ => fun
  | [d1, d2, d3] => { results := [.lit (.bool false)], args := [d1, d2, d3] }
  | _ => none }
def LoadMoreWrongFalsely : Prop := loadMoreRow.holds Try.pinned (OpenSpec.ofChange loadMoreWrong)

/-- 'switchboardlaw21.LoadTells': WHATEVER THE INPUT: true; the input reads as it did. -/
def loadTellsSpec : ChangeSpec := { name := "loadTells", fn := fun _ => fun
  | [d1, d2, d3] => { results := [.lit (.bool true)], args := [d1, d2, d3] }
  | _ => none }
def loadTellsRow : OpenClaim := { program := "ytchjpboiebdabaa", sum := "3864cf40120440ff98cea4ca9c257e520a1f715d38025087cb288bdc71fb9322", func := "switchboard/switchboardlaw21.LoadTells", spec := "loadTells", apart := false }
def LoadTellsSaid : Prop := loadTellsRow.holds Try.pinned (OpenSpec.ofChange loadTellsSpec)

/-- ITS FALSE NEIGHBOUR: 'it returns false'. Refute it at one input. -/
def loadTellsWrong : ChangeSpec := { name := "loadTells", fn := fun _ => fun
  | [d1, d2, d3] => { results := [.lit (.bool false)], args := [d1, d2, d3] }
  | _ => none }
def LoadTellsWrongFalsely : Prop := loadTellsRow.holds Try.pinned (OpenSpec.ofChange loadTellsWrong)

/-- 'switchboardlaw21.LoadCalm': WHATEVER THE INPUT: true; the input reads as it did. -/
def loadCalmSpec : ChangeSpec := { name := "loadCalm", fn := fun _ => fun
  | [d1, d2, d3] => { results := [.lit (.bool true)], args := [d1, d2, d3] }
  | _ => none }
def loadCalmRow : OpenClaim := { program := "ytchjpboiebdabaa", sum := "3864cf40120440ff98cea4ca9c257e520a1f715d38025087cb288bdc71fb9322", func := "switchboard/switchboardlaw21.LoadCalm", spec := "loadCalm", apart := false }
def LoadCalmSaid : Prop := loadCalmRow.holds Try.pinned (OpenSpec.ofChange loadCalmSpec)

/-- ITS FALSE NEIGHBOUR: 'it returns false'. Refute it at one input. -/
def loadCalmWrong : ChangeSpec := { name := "loadCalm", fn := fun _ => fun
  | [d1, d2, d3] => { results := [.lit (.bool false)], args := [d1, d2, d3] }
  | _ => none }
def LoadCalmWrongFalsely : Prop := loadCalmRow.holds Try.pinned (OpenSpec.ofChange loadCalmWrong)

/-- 'switchboardlaw09.WindowExact': WHATEVER THE INPUT: true; the input reads as it did. -/
def windowExactSpec : ChangeSpec := { name := "windowExact", fn := fun _ => fun
  | [d1, d2] => { results := [.lit (.bool true)], args := [d1, d2] }
  | _ => none }
def windowExactRow : OpenClaim := { program := "ytchjpboiebdabaa", sum := "3864cf40120440ff98cea4ca9c257e520a1f715d38025087cb288bdc71fb9322", func := "switchboard/switchboardlaw09.WindowExact", spec := "windowExact", recurses := true, apart := false }
def WindowExactSaid : Prop := windowExactRow.holds Try.pinned (OpenSpec.ofChange windowExactSpec)

/-- ITS FALSE NEIGHBOUR: 'it returns false'. Refute it at one input. -/
def windowExactWrong : ChangeSpec := { name := "windowExact", fn := fun _ => fun
  | [d1, d2] => { results := [.lit (.bool false)], args := [d1, d2] }
  | _ => none }
def WindowExactWrongFalsely : Prop := windowExactRow.holds Try.pinned (OpenSpec.ofChange windowExactWrong)

/-- 'switchboardlaw09.WindowOnce': WHATEVER THE INPUT: true; the input reads as it did. -/
def windowOnceSpec : ChangeSpec := { name := "windowOnce", fn := fun _ => fun
  | [d] => { results := [.lit (.bool true)], args := [d] }
  | _ => none }
def windowOnceRow : OpenClaim := { program := "ytchjpboiebdabaa", sum := "3864cf40120440ff98cea4ca9c257e520a1f715d38025087cb288bdc71fb9322", func := "switchboard/switchboardlaw09.WindowOnce", spec := "windowOnce", recurses := true, apart := false }
def WindowOnceSaid : Prop := windowOnceRow.holds Try.pinned (OpenSpec.ofChange windowOnceSpec)

/-- ITS FALSE NEIGHBOUR: 'it returns false'. Refute it at one input. -/
def windowOnceWrong : ChangeSpec := { name := "windowOnce", fn := fun _ => fun
  | [d] => { results := [.lit (.bool false)], args := [d] }
  | _ => none }
def WindowOnceWrongFalsely : Prop := windowOnceRow.holds Try.pinned (OpenSpec.ofChange windowOnceWrong)

/-- 'switchboardlaw09.WindowTurn': WHATEVER THE INPUT: true; the input reads as it did. -/
def windowTurnSpec : ChangeSpec := { name := "windowTurn", fn := fun _ => fun
  | [d1, d2] => { results := [.lit (.bool true)], args := [d1, d2] }
  | _ => none }
def windowTurnRow : OpenClaim := { program := "ytchjpboiebdabaa", sum := "3864cf40120440ff98cea4ca9c257e520a1f715d38025087cb288bdc71fb9322", func := "switchboard/switchboardlaw09.WindowTurn", spec := "windowTurn", recurses := true, apart := false }
def WindowTurnSaid : Prop := windowTurnRow.holds Try.pinned (OpenSpec.ofChange windowTurnSpec)

/-- ITS FALSE NEIGHBOUR: 'it returns false'. Refute it at one input. -/
def windowTurnWrong : ChangeSpec := { name := "windowTurn", fn := fun _ => fun
  | [d1, d2] => { results := [.lit (.bool false)], args := [d1, d2] }
  | _ => none }
def WindowTurnWrongFalsely : Prop := windowTurnRow.holds Try.pinned (OpenSpec.ofChange windowTurnWrong)

/-- 'switchboardlaw09.WindowWrong': WHATEVER THE INPUT: true; the input reads as it did. -/
def windowWrongSpec : ChangeSpec := { name := "windowWrong", fn := fun _ => fun
  | [d1, d2] => { results := [.lit (.bool true)], args := [d1, d2] }
  | _ => none }
def windowWrongRow : OpenClaim := { program := "ytchjpboiebdabaa", sum := "3864cf40120440ff98cea4ca9c257e520a1f715d38025087cb288bdc71fb9322", func := "switchboard/switchboardlaw09.WindowWrong", spec := "windowWrong", recurses := true, apart := false }
def WindowWrongSaid : Prop := windowWrongRow.holds Try.pinned (OpenSpec.ofChange windowWrongSpec)

/-- ITS FALSE NEIGHBOUR: 'it returns false'. Refute it at one input. -/
def windowWrongWrong : ChangeSpec := { name := "windowWrong", fn := fun _ => fun
  | [d1, d2] => { results := [.lit (.bool false)], args := [d1, d2] }
  | _ => none }
def WindowWrongWrongFalsely : Prop := windowWrongRow.holds Try.pinned (OpenSpec.ofChange windowWrongWrong)

/-- 'switchboardlaw09.WindowGap': WHATEVER THE INPUT: true; the input reads as it did. -/
def windowGapSpec : ChangeSpec := { name := "windowGap", fn := fun _ => fun
  | [d1, d2] => { results := [.lit (.bool true)], args := [d1, d2] }
  | _ => none }
def windowGapRow : OpenClaim := { program := "ytchjpboiebdabaa", sum := "3864cf40120440ff98cea4ca9c257e520a1f715d38025087cb288bdc71fb9322", func := "switchboard/switchboardlaw09.WindowGap", spec := "windowGap", recurses := true, apart := false }
def WindowGapSaid : Prop := windowGapRow.holds Try.pinned (OpenSpec.ofChange windowGapSpec)

/-- ITS FALSE NEIGHBOUR: 'it returns false'. Refute it at one input. -/
def windowGapWrong : ChangeSpec := { name := "windowGap", fn := fun _ => fun
  | [d1, d2] => { results := [.lit (.bool false)], args := [d1, d2] }
  | _ => none }
def WindowGapWrongFalsely : Prop := windowGapRow.holds Try.pinned (OpenSpec.ofChange windowGapWrong)

/-- 'switchboardlaw21.LoadMay': WHATEVER THE INPUT: true; the input reads as it did. -/
def loadMaySpec : ChangeSpec := { name := "loadMay", fn := fun _ => fun
  | [d1, d2, d3] => { results := [.lit (.bool true)], args := [d1, d2, d3] }
  | _ => none }
def loadMayRow : OpenClaim := { program := "ytchjpboiebdabaa", sum := "3864cf40120440ff98cea4ca9c257e520a1f715d38025087cb288bdc71fb9322", func := "switchboard/switchboardlaw21.LoadMay", spec := "loadMay", unfollowed := true, recurses := true, apart := false }
def LoadMaySaid : Prop := loadMayRow.holds Try.pinned (OpenSpec.ofChange loadMaySpec)

/-- ITS FALSE NEIGHBOUR: 'it returns false'. Refute it at one input. -/
def loadMayWrong : ChangeSpec := { name := "loadMay", fn := fun _ => fun
  | [d1, d2, d3] => { results := [.lit (.bool false)], args := [d1, d2, d3] }
  | _ => none }
def LoadMayWrongFalsely : Prop := loadMayRow.holds Try.pinned (OpenSpec.ofChange loadMayWrong)

/- THE SECOND FORM. 'bulk': how many values and letters a reading holds, each counted each time it is reached (what is shared counts as often as it is met; a slice's spare places count too). A statement '..UptoSaid' is the law's where the arguments, and the package variables that the reading takes, are together of bulk at most 1048576: NARROWER than '..Said'. Prove '..Said' where nothing that the law and all that it calls make is longer than what came in: it says more and counts as full. Else prove '..UptoSaid'. A law counts once. -/
mutual
def uptoBulk {H : Type} : DataW H → Nat
  | .lit (.string bytes) => bytes.length + 1
  | .lit _ => 1
  | .nil => 1
  | .ptr d => uptoBulk d + 1
  | .slice elems spare => uptoBulkAll elems + uptoBulkAll spare + 1
  | .agg parts => uptoBulkAll parts + 1
  | .iface _ d => uptoBulk d + 1
  | .map entries => uptoBulkEntries entries + 1
  | .held _ => 1
def uptoBulkAll {H : Type} : List (DataW H) → Nat
  | [] => 0
  | d :: r => uptoBulk d + uptoBulkAll r
def uptoBulkEntries {H : Type} : List (Lit × DataW H) → Nat
  | [] => 0
  | x :: r => uptoBulkEntry x + uptoBulkEntries r
def uptoBulkEntry {H : Type} : Lit × DataW H → Nat
  | (.string bytes, d) => bytes.length + uptoBulk d + 1
  | (_, d) => uptoBulk d + 1
 end
def uptoSmall : (H : Type) → List (DataW H) → Bool := fun _ ds => decide (uptoBulkAll ds ≤ 1048576)
def OpenSpec.upto (s : _root_.Go.ChangeSpec) : _root_.Go.OpenSpec := { _root_.Go.OpenSpec.ofChange s with cond := some uptoSmall }

/-- 'switchboardlaw21.LoadNotes', WHERE WHAT IT READS IS OF BULK AT MOST 1048576: true; the input reads as it did. -/
def loadNotesUptoRow : OpenClaim := { program := "ytchjpboiebdabaa", sum := "3864cf40120440ff98cea4ca9c257e520a1f715d38025087cb288bdc71fb9322", func := "switchboard/switchboardlaw21.LoadNotes", spec := "loadNotes", apart := false, narrowed := true }
def LoadNotesUptoSaid : Prop := loadNotesUptoRow.holds Try.pinned (OpenSpec.upto loadNotesSpec)

/-- 'switchboardlaw21.LoadAdds', WHERE WHAT IT READS IS OF BULK AT MOST 1048576: true; the input reads as it did. -/
def loadAddsUptoRow : OpenClaim := { program := "ytchjpboiebdabaa", sum := "3864cf40120440ff98cea4ca9c257e520a1f715d38025087cb288bdc71fb9322", func := "switchboard/switchboardlaw21.LoadAdds", spec := "loadAdds", apart := false, narrowed := true }
def LoadAddsUptoSaid : Prop := loadAddsUptoRow.holds Try.pinned (OpenSpec.upto loadAddsSpec)

/-- 'switchboardlaw21.LoadSums', WHERE WHAT IT READS IS OF BULK AT MOST 1048576: true; the input reads as it did. -/
def loadSumsUptoRow : OpenClaim := { program := "ytchjpboiebdabaa", sum := "3864cf40120440ff98cea4ca9c257e520a1f715d38025087cb288bdc71fb9322", func := "switchboard/switchboardlaw21.LoadSums", spec := "loadSums", apart := false, narrowed := true }
def LoadSumsUptoSaid : Prop := loadSumsUptoRow.holds Try.pinned (OpenSpec.upto loadSumsSpec)

/-- 'switchboardlaw21.LoadMore', WHERE WHAT IT READS IS OF BULK AT MOST 1048576: true; the input reads as it did. -/
def loadMoreUptoRow : OpenClaim := { program := "ytchjpboiebdabaa", sum := "3864cf40120440ff98cea4ca9c257e520a1f715d38025087cb288bdc71fb9322", func := "switchboard/switchboardlaw21.LoadMore", spec := "loadMore", apart := false, narrowed := true }
def LoadMoreUptoSaid : Prop := loadMoreUptoRow.holds Try.pinned (OpenSpec.upto loadMoreSpec)

/-- 'switchboardlaw21.LoadTells', WHERE WHAT IT READS IS OF BULK AT MOST 1048576: true; the input reads as it did. -/
def loadTellsUptoRow : OpenClaim := { program := "ytchjpboiebdabaa", sum := "3864cf40120440ff98cea4ca9c257e520a1f715d38025087cb288bdc71fb9322", func := "switchboard/switchboardlaw21.LoadTells", spec := "loadTells", apart := false, narrowed := true }
def LoadTellsUptoSaid : Prop := loadTellsUptoRow.holds Try.pinned (OpenSpec.upto loadTellsSpec)

/-- 'switchboardlaw21.LoadCalm', WHERE WHAT IT READS IS OF BULK AT MOST 1048576: true; the input reads as it did. -/
def loadCalmUptoRow : OpenClaim := { program := "ytchjpboiebdabaa", sum := "3864cf40120440ff98cea4ca9c257e520a1f715d38025087cb288bdc71fb9322", func := "switchboard/switchboardlaw21.LoadCalm", spec := "loadCalm", apart := false, narrowed := true }
def LoadCalmUptoSaid : Prop := loadCalmUptoRow.holds Try.pinned (OpenSpec.upto loadCalmSpec)

/-- 'switchboardlaw09.WindowExact', WHERE WHAT IT READS IS OF BULK AT MOST 1048576: true; the input reads as it did. -/
def windowExactUptoRow : OpenClaim := { program := "ytchjpboiebdabaa", sum := "3864cf40120440ff98cea4ca9c257e520a1f715d38025087cb288bdc71fb9322", func := "switchboard/switchboardlaw09.WindowExact", spec := "windowExact", recurses := true, apart := false, narrowed := true }
def WindowExactUptoSaid : Prop := windowExactUptoRow.holds Try.pinned (OpenSpec.upto windowExactSpec)

/-- 'switchboardlaw09.WindowOnce', WHERE WHAT IT READS IS OF BULK AT MOST 1048576: true; the input reads as it did. -/
def windowOnceUptoRow : OpenClaim := { program := "ytchjpboiebdabaa", sum := "3864cf40120440ff98cea4ca9c257e520a1f715d38025087cb288bdc71fb9322", func := "switchboard/switchboardlaw09.WindowOnce", spec := "windowOnce", recurses := true, apart := false, narrowed := true }
def WindowOnceUptoSaid : Prop := windowOnceUptoRow.holds Try.pinned (OpenSpec.upto windowOnceSpec)

/-- 'switchboardlaw09.WindowTurn', WHERE WHAT IT READS IS OF BULK AT MOST 1048576: true; the input reads as it did. -/
def windowTurnUptoRow : OpenClaim := { program := "ytchjpboiebdabaa", sum := "3864cf40120440ff98cea4ca9c257e520a1f715d38025087cb288bdc71fb9322", func := "switchboard/switchboardlaw09.WindowTurn", spec := "windowTurn", recurses := true, apart := false, narrowed := true }
def WindowTurnUptoSaid : Prop := windowTurnUptoRow.holds Try.pinned (OpenSpec.upto windowTurnSpec)

/-- 'switchboardlaw09.WindowWrong', WHERE WHAT IT READS IS OF BULK AT MOST 1048576: true; the input reads as it did. -/
def windowWrongUptoRow : OpenClaim := { program := "ytchjpboiebdabaa", sum := "3864cf40120440ff98cea4ca9c257e520a1f715d38025087cb288bdc71fb9322", func := "switchboard/switchboardlaw09.WindowWrong", spec := "windowWrong", recurses := true, apart := false, narrowed := true }
def WindowWrongUptoSaid : Prop := windowWrongUptoRow.holds Try.pinned (OpenSpec.upto windowWrongSpec)

/-- 'switchboardlaw09.WindowGap', WHERE WHAT IT READS IS OF BULK AT MOST 1048576: true; the input reads as it did. -/
def windowGapUptoRow : OpenClaim := { program := "ytchjpboiebdabaa", sum := "3864cf40120440ff98cea4ca9c257e520a1f715d38025087cb288bdc71fb9322", func := "switchboard/switchboardlaw09.WindowGap", spec := "windowGap", recurses := true, apart := false, narrowed := true }
def WindowGapUptoSaid : Prop := windowGapUptoRow.holds Try.pinned (OpenSpec.upto windowGapSpec)

/-- 'switchboardlaw21.LoadMay', WHERE WHAT IT READS IS OF BULK AT MOST 1048576: true; the input reads as it did. -/
def loadMayUptoRow : OpenClaim := { program := "ytchjpboiebdabaa", sum := "3864cf40120440ff98cea4ca9c257e520a1f715d38025087cb288bdc71fb9322", func := "switchboard/switchboardlaw21.LoadMay", spec := "loadMay", unfollowed := true, recurses := true, apart := false, narrowed := true }
def LoadMayUptoSaid : Prop := loadMayUptoRow.holds Try.pinned (OpenSpec.upto loadMaySpec)

end Rows
end Go.Proofs.Ytchjpboiebdabaa
