/- Plain facts of rows of nodes. -/
import Derived.Test.YthkehbdljckbdaaSRight
set_option linter.unusedVariables false
set_option linter.unusedSimpArgs false
namespace Go.Proofs.Ythkehbdljckbdaa.Pv
open Go Go.Pev
theorem rowUp_sub : ∀ (r : List Int) (last : Int), 0 ≤ last → rowUp last r = true → r.Sublist (([1, 2, 3, 4] : List Int).filter fun n => decide (last < n))
  | [], last, _, _ => List.nil_sublist _
  | n :: r, last, h0, h => by
    simp only [rowUp, Bool.and_eq_true, decide_eq_true_eq] at h
    obtain ⟨⟨h1, h2⟩, h3⟩ := h
    have ih := rowUp_sub r n (by omega) h3
    have hn : n = 1 ∨ n = 2 ∨ n = 3 ∨ n = 4 := by omega
    have hl : last = 0 ∨ last = 1 ∨ last = 2 ∨ last = 3 := by omega
    rcases hn with rfl | rfl | rfl | rfl <;> rcases hl with rfl | rfl | rfl | rfl <;> first | omega | skip
    all_goals
      simp at ih ⊢
      first
        | exact ih
        | exact .cons _ (List.cons_sublist_cons.2 ih)
        | exact .cons _ (.cons _ (List.cons_sublist_cons.2 ih))
        | exact .cons _ (.cons _ (.cons _ (List.cons_sublist_cons.2 ih)))
        | (rw [ih]; exact List.singleton_sublist.2 (by simp))
        | simpa using ih
theorem rowUp_is {r : List Int} (h : rowUp 0 r = true) : r.Sublist [1, 2, 3, 4] := by
  have := rowUp_sub r 0 (by omega) h
  simpa using this
theorem rowUp_len {r : List Int} (h : rowUp 0 r = true) : r.length ≤ 4 := by
  have := (rowUp_is h).length_le
  simpa using this
theorem right_e {e : Int} {h : List (List Int)} (hr : right e h = true) : 0 ≤ e ∧ e ≤ 2147483647 ∧ h.length ≤ 8 := by
  simp only [right, Bool.and_eq_true, decide_eq_true_eq] at hr
  exact hr.1
theorem right_row' {e : Int} {h : List (List Int)} (hr : right e h = true) {r : List Int} (hm : r ∈ h) : rowUp 0 r = true ∧ r ≠ [] := by
  simp only [right, Bool.and_eq_true, List.all_eq_true] at hr
  have := hr.2 r hm
  refine ⟨this.1, fun e => ?_⟩
  rw [e] at this
  simp at this
end Go.Proofs.Ythkehbdljckbdaa.Pv
