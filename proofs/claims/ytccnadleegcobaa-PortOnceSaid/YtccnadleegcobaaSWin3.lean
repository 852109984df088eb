/- Windows: what the document's Right and Same tell; Accept, whole. -/
import Derived.Test.YtccnadleegcobaaSWin2
set_option linter.unusedVariables false
set_option linter.unusedSimpArgs false
namespace Go.Proofs.Ytccnadleegcobaa.Pv
open Go Go.Pev

def I64' (n : Int) : Prop := -9223372036854775808 ≤ n ∧ n ≤ 9223372036854775807

theorem accept_ret (low : Int) (l : List Int) (n : Int) (hw : I64' low) (hl : l.length ≤ 1000000) (hn : ∀ n ∈ l, I64' n) : RetT cfg 17 [.ag [iv low, .t (il l)], iv n] (accV (acc low l n)) := by
  by_cases hc : wright low l = true ∧ low ≤ n ∧ n ≤ 2147483647 ∧ ¬ n ∈ l
  · exact accept_yes low l n hc.1 hc.2.1 hc.2.2.1 hc.2.2.2
  · have : acc low l n = (low, l, false) := by unfold acc; rw [if_neg hc]
    rw [this]
    exact accept_no low l n hw hl (fun x hx => (hn x hx).2) hc

end Go.Proofs.Ytccnadleegcobaa.Pv
