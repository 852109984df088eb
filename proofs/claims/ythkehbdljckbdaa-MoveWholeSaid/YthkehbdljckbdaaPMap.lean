/- Plain facts of maps: what Add and Retire make of a right map is what the document says. -/
import Derived.Test.YthkehbdljckbdaaPTurn
import Derived.Test.YthkehbdljckbdaaSRet
set_option linter.unusedVariables false
set_option linter.unusedSimpArgs false
namespace Go.Proofs.Ythkehbdljckbdaa.Pv
open Go Go.Pev

def subs : List (List Int) := [[], [1], [2], [3], [4], [1, 2], [1, 3], [1, 4], [2, 3], [2, 4], [3, 4], [1, 2, 3], [1, 2, 4], [1, 3, 4], [2, 3, 4], [1, 2, 3, 4]]
theorem sub_in {r : List Int} (h : r.Sublist [1, 2, 3, 4]) : r ∈ subs := by
  have step : ∀ {a : Int} {l : List Int} {r : List Int}, r.Sublist (a :: l) → r.Sublist l ∨ ∃ r', r = a :: r' ∧ r'.Sublist l := by
    intro a l r h
    cases h with
    | cons _ h => exact .inl h
    | cons_cons _ h => exact .inr ⟨_, rfl, h⟩
  have nil : ∀ {r : List Int}, r.Sublist [] → r = [] := fun h => List.sublist_nil.1 h
  rcases step h with h1 | ⟨_, rfl, h1⟩ <;> rcases step h1 with h2 | ⟨_, rfl, h2⟩ <;> rcases step h2 with h3 | ⟨_, rfl, h3⟩ <;> rcases step h3 with h4 | ⟨_, rfl, h4⟩ <;> cases nil h4 <;> decide
theorem row_in {r : List Int} (h : rowUp 0 r = true) : r ∈ subs := sub_in (rowUp_is h)

theorem srt_is {l t : List Int} (hp : t.Pairwise (· ≤ ·)) (h : t.Perm l) : Go.Pev.srt l = t := by
  have h1 : (Go.Pev.srt l).Pairwise (fun a b => decide (a ≤ b) = true) := List.pairwise_mergeSort (by intro a b c h1 h2; simp at *; omega) (by intro a b; simp; omega) _
  have h2 : (Go.Pev.srt l).Perm t := (List.mergeSort_perm _ _).trans h.symm
  refine h2.eq_of_pairwise (le := fun a b => decide (a ≤ b)) (fun a b _ _ h3 h4 => ?_) h1 (hp.imp fun h => ?_)
  · simp at h3 h4; omega
  · simpa using h

theorem trow_same : ∀ r ∈ subs, trow (fun j => r.contains j) 4 1 = r := by decide
theorem trow_add0 : ∀ r ∈ subs, ∀ n ∈ ([1, 2, 3, 4] : List Int), r.contains n = false → (trow (tst r true n true) 4 1).Pairwise (· ≤ ·) ∧ (trow (tst r true n true) 4 1).isPerm (r ++ [n]) = true := by decide
theorem trow_add {r : List Int} (h : r ∈ subs) {n : Int} (hn : 1 ≤ n ∧ n ≤ 4) (hc : r.contains n = false) : trow (tst r true n true) 4 1 = srt (r ++ [n]) := by
  have hm : n ∈ ([1, 2, 3, 4] : List Int) := by
    have : n = 1 ∨ n = 2 ∨ n = 3 ∨ n = 4 := by omega
    rcases this with rfl | rfl | rfl | rfl <;> decide
  obtain ⟨h1, h2⟩ := trow_add0 r h n hm hc
  exact (srt_is h1 (List.isPerm_iff.1 h2)).symm
theorem trow_del : ∀ r ∈ subs, ∀ n ∈ ([1, 2, 3, 4] : List Int), trow (tst r true n false) 4 1 = r.filter (· != n) := by decide
theorem tst_f (r : List Int) (n : Int) (add : Bool) : tst r false n add = fun j => r.contains j := by
  funext j; simp [tst]
theorem n14 {n : Int} (h1 : 1 ≤ n) (h2 : n ≤ 4) : n ∈ ([1, 2, 3, 4] : List Int) := by
  have : n = 1 ∨ n = 2 ∨ n = 3 ∨ n = 4 := by omega
  rcases this with rfl | rfl | rfl | rfl <;> decide

theorem rows_set {e : Int} {h : List (List Int)} (hr : right e h = true) {y : Nat} (hy : y < h.length) (n : Int) (add : Bool) : (List.range' 0 h.length).map (nrow h y n add) = h.set y (trow (tst h[y] true n add) 4 1) := by
  apply List.ext_getElem
  · simp
  · intro i h1 h2
    have hi : i < h.length := by simpa using h1
    have hg : h.getD i [] = h[i] := by simp [List.getD_eq_getElem?_getD, List.getElem?_eq_getElem hi]
    simp only [List.getElem_map, List.getElem_range', nrow, Nat.zero_add, Nat.one_mul, hg]
    rw [List.getElem_set]
    by_cases e : y = i
    · subst e; simp
    · have e' : ((i : Int) == (y : Int)) = false := by simp; omega
      rw [if_neg e, e', tst_f]
      exact trow_same _ (row_in (right_row' hr (List.getElem_mem hi)).1)

theorem may_p {e : Int} {h : List (List Int)} {x n : Int} (h1 : may e h x n = true) : right e h = true ∧ 0 ≤ x ∧ x < h.length ∧ 1 ≤ n ∧ n ≤ 4 ∧ 0 ≤ e ∧ e < 2147483647 := by
  simp only [may, Bool.and_eq_true, decide_eq_true_eq] at h1
  obtain ⟨⟨⟨⟨⟨p1, p2⟩, p3⟩, p4⟩, p5⟩, p6⟩ := h1
  exact ⟨p1, p2, p3, p4, p5, (right_e p1).1, p6⟩
theorem holds_c {h : List (List Int)} {x n : Int} (h1 : 0 ≤ x) (h2 : x < h.length) : holds h x n = (h.getD x.toNat []).contains n := by
  simp [holds, h1, h2]

theorem padd_turn (e : Int) (h : List (List Int)) (x n : Int) : padd e h x n = rturn e h x n true := by
  unfold padd rturn
  by_cases h1 : may e h x n = false
  · rw [if_pos h1, if_pos h1]
  · rw [if_neg h1, if_neg h1]
    obtain ⟨p1, p2, p3, p4, p5, p6, p7⟩ := may_p (by simpa using h1)
    obtain ⟨y, rfl⟩ : ∃ y : Nat, x = y := ⟨x.toNat, by omega⟩
    have hy : y < h.length := by omega
    have hgd : h.getD y [] = h[y] := by simp [List.getD_eq_getElem?_getD, List.getElem?_eq_getElem hy]
    rw [holds_c p2 p3]
    simp only [Int.toNat_natCast, hgd, Bool.true_and, Bool.not_true, Bool.false_and]
    by_cases hc : h[y].contains n = true
    · rw [if_pos hc, if_pos hc]
    · rw [if_neg hc, if_neg hc]
      simp only [Bool.false_eq_true, if_false]
      rw [rows_set p1 hy, trow_add (row_in (right_row' p1 (List.getElem_mem hy)).1) ⟨p4, p5⟩ (by simpa using hc)]
theorem pret_turn (e : Int) (h : List (List Int)) (x n : Int) : pret e h x n = rturn e h x n false := by
  unfold pret rturn
  by_cases h1 : may e h x n = false
  · rw [if_pos h1, if_pos h1]
  · rw [if_neg h1, if_neg h1]
    obtain ⟨p1, p2, p3, p4, p5, p6, p7⟩ := may_p (by simpa using h1)
    obtain ⟨y, rfl⟩ : ∃ y : Nat, x = y := ⟨x.toNat, by omega⟩
    have hy : y < h.length := by omega
    have hgd : h.getD y [] = h[y] := by simp [List.getD_eq_getElem?_getD, List.getElem?_eq_getElem hy]
    rw [holds_c p2 p3]
    simp only [Int.toNat_natCast, hgd, Bool.false_and, Bool.not_false, Bool.true_and]
    by_cases hc : h[y].contains n = true
    · simp only [hc]
      by_cases hl : h[y].length = 1
      · simp [hl]
      · have hl' : (h[y].length == 1) = false := by simpa using hl
        simp only [hl, hl']
        rw [rows_set p1 hy, trow_del _ (row_in (right_row' p1 (List.getElem_mem hy)).1) n (n14 p4 p5)]
        simp
    · have hc : h[y].contains n = false := by simpa using hc
      simp only [hc]
      simp
end Go.Proofs.Ythkehbdljckbdaa.Pv
