/- Windows: what the document's Accept tells: just what the program's does. -/
import Derived.Test.YtccnadleegcobaaSWin3
set_option linter.unusedVariables false
set_option linter.unusedSimpArgs false
namespace Go.Proofs.Ytccnadleegcobaa.Pv
open Go Go.Pev

theorem ins_snoc (n x : Int) : ∀ a : List Int, ins n (a ++ [x]) = if a.any (fun y => decide (n < y)) then ins n a ++ [x] else if n < x then a ++ [n, x] else a ++ [x, n]
  | [] => by simp [ins]
  | y :: a => by
    have ih := ins_snoc n x a
    by_cases h : n < y
    · simp [ins, h]
    · simp only [List.cons_append, ins, h, if_false, ih, List.any_cons, decide_false, Bool.false_or]
      split
      · rfl
      · split <;> rfl
theorem ins_none (n : Int) : ∀ a : List Int, a.any (fun y => decide (n < y)) = false → ins n a = a ++ [n]
  | [], _ => rfl
  | y :: a, h => by
    simp only [List.any_cons, Bool.or_eq_false_iff, decide_eq_false_iff_not] at h
    simp [ins, h.1, ins_none n a h.2]

def anyAbove (n : Int) (a : List Int) : Bool := a.any fun y => decide (n < y)
def rowI (n : Int) (a : List Int) : List Int := if anyAbove n a then ins n a else a
theorem rowI_len (n : Int) (a : List Int) : (rowI n a).length ≤ a.length + 1 := by
  unfold rowI
  split
  · rw [ins_len]; omega
  · omega
theorem any_snoc (n x : Int) (a : List Int) : anyAbove n (a ++ [x]) = (anyAbove n a || decide (n < x)) := by simp [anyAbove]
/-- Ascending: behind one that is above, all are. -/
theorem any_next {n : Int} {l : List Int} (hp : l.Pairwise (· < ·)) {i : Nat} (hi : i < l.length) (h : anyAbove n (l.take i) = true) : n < l[i] := by
  simp only [anyAbove, List.any_eq_true, decide_eq_true_eq] at h
  obtain ⟨y, hy, h⟩ := h
  obtain ⟨j, hj, rfl⟩ := List.getElem_of_mem hy
  have hji : j < i := by simp at hj; omega
  have := List.pairwise_iff_getElem.1 hp j i (by omega) hi hji
  rw [List.getElem_take] at h
  omega

theorem rowI_snoc (n x : Int) (a : List Int) : rowI n (a ++ [x]) = if n < x ∧ anyAbove n a = false then rowI n a ++ [n] ++ [x] else rowI n a ++ [x] := by
  unfold rowI
  rw [any_snoc]
  have := ins_snoc n x a
  cases ha : anyAbove n a with
  | true =>
    unfold anyAbove at ha
    simp [this, ha]
  | false =>
    unfold anyAbove at ha
    by_cases hn : n < x
    · simp [this, ha, hn]
    · simp [hn]
theorem rowI_next {n : Int} {l : List Int} {i : Nat} (hi : i < l.length) :
    anyAbove n (l.take (i + 1)) = (anyAbove n (l.take i) || decide (n < l[i])) ∧
    rowI n (l.take (i + 1)) = if n < l[i] ∧ anyAbove n (l.take i) = false then rowI n (l.take i) ++ [n] ++ [l[i]] else rowI n (l.take i) ++ [l[i]] := by
  have ht : l.take (i + 1) = l.take i ++ [l[i]] := by rw [List.take_add_one, List.getElem?_eq_getElem hi]; rfl
  rw [ht]
  exact ⟨any_snoc n _ _, rowI_snoc n _ _⟩

theorem RetT.of_winx {f : Nat} {args : List V} {low : Int} {L : List Int} {off : Nat} {b : Bool} (ho : off ≤ L.length) (h : ∃ k ty h c, runL cfg f args [] 0 = some (.tu [.ag [iv low, .ow k 1 off (L.length - off)], bv b], h, c) ∧ h.get k = some (.row ty 1 (cl L) false)) : RetT cfg f args (accV (low, L.drop off, b)) := by
  obtain ⟨k, ty, h, c, h1, h2⟩ := h
  refine ⟨_, h, c, h1, ?_⟩
  have h3 : treeOf h (.ow k 1 off (L.length - off)) = some (.l (cl (L.drop off))) := by
    have h5 : off + (L.length - off) ≤ L.length := by omega
    have h6 : ((cl L).drop off).take (L.length - off) = cl (L.drop off) := by
      rw [List.take_of_length_le (by simp [cl])]
      simp [cl, List.map_drop]
    have h7 : off + (L.length - off) ≤ (cl L).length := by simpa [cl] using h5
    simp [treeOf, h2, h7, h6]
  have h4 : treesOf h [iv low, .ow k 1 off (L.length - off)] = some [.i .i64 low, .l (cl (L.drop off))] := by
    simp only [treesOf, h3]; rfl
  simp only [iv] at h4
  simp [resOf, resOfs, resOf1, h4, accV, il, cl]

end Go.Proofs.Ytccnadleegcobaa.Pv
