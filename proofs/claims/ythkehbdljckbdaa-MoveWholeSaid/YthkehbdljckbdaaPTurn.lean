/- Turned maps, plainly. -/
import Derived.Test.YthkehbdljckbdaaSPlace
set_option linter.unusedVariables false
set_option linter.unusedSimpArgs false
namespace Go.Proofs.Ythkehbdljckbdaa.Pv
open Go Go.Pev
/-- The numbers j, j + 1, .. (k of them) that a test lets in. -/
def trow (p : Int → Bool) : Nat → Nat → List Int
  | 0, _ => []
  | k + 1, j => (if p j then [(j : Int)] else []) ++ trow p k (j + 1)
def tst (l : List Int) (at_ : Bool) (n : Int) (add : Bool) (j : Int) : Bool := if at_ && j == n then add else l.contains j

/-- A row as it is turned. -/
def nrow (h : List (List Int)) (x n : Int) (add : Bool) (i : Nat) : List Int := trow (tst (h.getD i []) ((i : Int) == x) n add) 4 1

def rturn (e : Int) (h : List (List Int)) (x n : Int) (add : Bool) : Int × List (List Int) × Int :=
  if may e h x n = false then (e, h, 1) else
  if add && (h.getD x.toNat []).contains n then (e, h, 5) else
  if !add && !(h.getD x.toNat []).contains n then (e, h, 4) else
  if !add && (h.getD x.toNat []).length == 1 then (e, h, 7) else
  (e + 1, (List.range' 0 h.length).map (nrow h x n add), 0)

end Go.Proofs.Ythkehbdljckbdaa.Pv
