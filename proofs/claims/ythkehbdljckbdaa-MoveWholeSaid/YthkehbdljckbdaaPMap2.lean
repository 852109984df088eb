/- Plain facts of maps: what is turned, and what is not. -/
import Derived.Test.YthkehbdljckbdaaPMap
set_option linter.unusedVariables false
set_option linter.unusedSimpArgs false
namespace Go.Proofs.Ythkehbdljckbdaa.Pv
open Go Go.Pev

def nw (r : List Int) (n : Int) (add : Bool) : List Int := trow (tst r true n add) 4 1
theorem nw_in : ∀ r ∈ subs, ∀ n ∈ ([1, 2, 3, 4] : List Int), ∀ add : Bool, nw r n add ∈ subs := by decide
theorem nw_has4 : ∀ r ∈ subs, ∀ n ∈ ([1, 2, 3, 4] : List Int), ∀ add : Bool, ∀ m ∈ ([1, 2, 3, 4] : List Int), (nw r n add).contains m = if m == n then add else r.contains m := by decide
theorem subs_14 : ∀ r ∈ subs, ∀ m ∈ r, m ∈ ([1, 2, 3, 4] : List Int) := by decide
theorem nw_back : ∀ r ∈ subs, ∀ n ∈ ([1, 2, 3, 4] : List Int), r.contains n = false → nw (nw r n true) n false = r := by decide
theorem nw_ne : ∀ r ∈ subs, ∀ n ∈ ([1, 2, 3, 4] : List Int), ∀ add : Bool, (add = false → r.contains n = true ∧ r.length ≠ 1) → nw r n add ≠ [] := by decide
theorem nw_len : ∀ r ∈ subs, ∀ n ∈ ([1, 2, 3, 4] : List Int), r ≠ [] → r.contains n = false → (nw r n true).length ≠ 1 := by decide
theorem subs_up : ∀ r ∈ subs, rowUp 0 r = true := by decide
theorem nw_has {r : List Int} (hr : r ∈ subs) {n : Int} (h1 : 1 ≤ n) (h2 : n ≤ 4) (add : Bool) (m : Int) : (nw r n add).contains m = if m == n then add else r.contains m := by
  by_cases hm : m ∈ ([1, 2, 3, 4] : List Int)
  · exact nw_has4 r hr n (n14 h1 h2) add m hm
  · have e1 : (nw r n add).contains m = false := by
      rw [Bool.eq_false_iff]; intro h
      exact hm (subs_14 _ (nw_in r hr n (n14 h1 h2) add) m (by simpa using h))
    have e2 : r.contains m = false := by
      rw [Bool.eq_false_iff]; intro h
      exact hm (subs_14 _ hr m (by simpa using h))
    have e3 : (m == n) = false := by
      rw [Bool.eq_false_iff]; intro h
      exact hm (by rw [eq_of_beq h]; exact n14 h1 h2)
    rw [e1, e2, e3]; rfl

theorem rturn_cases (e : Int) (h : List (List Int)) (x n : Int) (add : Bool) : (∃ t : Int, t ≠ 0 ∧ rturn e h x n add = (e, h, t)) ∨
    (∃ (y : Nat) (hy : y < h.length), x = y ∧ right e h = true ∧ 1 ≤ n ∧ n ≤ 4 ∧ e < 2147483647 ∧ h[y].contains n = !add ∧ (add = false → h[y].length ≠ 1) ∧ rturn e h x n add = (e + 1, h.set y (nw h[y] n add), 0)) := by
  unfold rturn
  by_cases h1 : may e h x n = false
  · rw [if_pos h1]; exact .inl ⟨1, by omega, rfl⟩
  · rw [if_neg h1]
    obtain ⟨p1, p2, p3, p4, p5, p6, p7⟩ := may_p (by simpa using h1)
    obtain ⟨y, rfl⟩ : ∃ y : Nat, x = y := ⟨x.toNat, by omega⟩
    have hy : y < h.length := by omega
    have hgd : h.getD y [] = h[y] := by simp [List.getD_eq_getElem?_getD, List.getElem?_eq_getElem hy]
    simp only [Int.toNat_natCast, hgd]
    rw [rows_set p1 hy]
    cases add with
    | true =>
      by_cases hc : h[y].contains n = true
      · simp only [hc, Bool.and_self, if_true]; exact .inl ⟨5, by omega, rfl⟩
      · have hc : h[y].contains n = false := by simpa using hc
        simp only [hc]
        exact .inr ⟨y, hy, rfl, p1, p4, p5, p7, by rw [hc]; rfl, by simp, rfl⟩
    | false =>
      by_cases hc : h[y].contains n = true
      · by_cases hl : h[y].length = 1
        · simp only [hc, hl]; exact .inl ⟨7, by omega, rfl⟩
        · have hl' : (h[y].length == 1) = false := by simpa using hl
          simp only [hc, hl']
          exact .inr ⟨y, hy, rfl, p1, p4, p5, p7, by rw [hc]; rfl, fun _ => hl, rfl⟩
      · have hc : h[y].contains n = false := by simpa using hc
        simp only [hc]; exact .inl ⟨4, by omega, rfl⟩

theorem right_set {e : Int} {h : List (List Int)} (hr : right e h = true) (he : e < 2147483647) {y : Nat} {r : List Int} (h1 : r ∈ subs) (h2 : r ≠ []) : right (e + 1) (h.set y r) = true := by
  have h0 := right_e hr
  simp only [right, Bool.and_eq_true, List.all_eq_true, decide_eq_true_eq] at hr ⊢
  refine ⟨⟨by omega, by omega, by simp; omega⟩, fun z hz => ?_⟩
  rcases List.mem_or_eq_of_mem_set hz with hz | rfl
  · exact hr.2 z hz
  · exact ⟨subs_up _ h1, by simpa using h2⟩
theorem holds_at {h : List (List Int)} {y : Nat} (hy : y < h.length) (m : Int) : holds h y m = h[y].contains m := by
  rw [holds_c (by omega) (by omega)]
  simp [List.getD_eq_getElem?_getD, List.getElem?_eq_getElem hy]

theorem rturn_ok {e : Int} {h : List (List Int)} {y : Nat} {n : Int} {add : Bool} (hm : may e h y n = true) (hy : y < h.length) (hc : h[y].contains n = !add) (hl : add = false → h[y].length ≠ 1) : rturn e h y n add = (e + 1, h.set y (nw h[y] n add), 0) := by
  rcases rturn_cases e h y n add with ⟨t, h0, h1⟩ | ⟨y', hy', e', h1, h2, h3, h4, h5, h6, h7⟩
  · exfalso
    have hgd : h.getD y [] = h[y] := by simp [List.getD_eq_getElem?_getD, List.getElem?_eq_getElem hy]
    unfold rturn at h1
    rw [if_neg (by rw [hm]; simp)] at h1
    simp only [Int.toNat_natCast, hgd, hc] at h1
    cases add with
    | true => simp at h1; omega
    | false =>
      have := hl rfl
      have hl' : (h[y].length == 1) = false := by simpa using this
      simp [hl'] at h1; omega
  · obtain rfl : y = y' := by omega
    exact h7

/-- What a turn that is done makes. -/
theorem rturn_done {e : Int} {h : List (List Int)} {x n : Int} {add : Bool} (ht : (rturn e h x n add).2.2 = 0) : (rturn e h x n add).1 = e + 1 ∧ right (e + 1) (rturn e h x n add).2.1 = true ∧ holds (rturn e h x n add).2.1 x n = add ∧ holds h x n = !add := by
  rcases rturn_cases e h x n add with ⟨t, h0, h1⟩ | ⟨y, hy, rfl, h1, h2, h3, h4, h5, h6, h7⟩
  · rw [h1] at ht; exact absurd ht h0
  · rw [h7]
    have hin := row_in (right_row' h1 (List.getElem_mem hy)).1
    refine ⟨rfl, right_set h1 h4 (nw_in _ hin n (n14 h2 h3) add) (nw_ne _ hin n (n14 h2 h3) add fun ha => ⟨by rw [h5, ha]; rfl, h6 ha⟩), ?_, by rw [holds_at hy, h5]⟩
    rw [holds_at (by simpa using hy)]
    simp only [List.getElem_set_self]
    rw [nw_has hin h2 h3]; simp
theorem rturn_not {e : Int} {h : List (List Int)} {x n : Int} {add : Bool} (ht : (rturn e h x n add).2.2 ≠ 0) : (rturn e h x n add).1 = e ∧ (rturn e h x n add).2.1 = h := by
  rcases rturn_cases e h x n add with ⟨t, h0, h1⟩ | ⟨y, hy, rfl, h1, h2, h3, h4, h5, h6, h7⟩
  · rw [h1]; exact ⟨rfl, rfl⟩
  · rw [h7] at ht; exact absurd rfl ht
theorem rturn_both (e : Int) (h : List (List Int)) (x n : Int) : (rturn e h x n true).2.2 ≠ 0 ∨ (rturn e h x n false).2.2 ≠ 0 := by
  by_cases h1 : (rturn e h x n true).2.2 = 0
  · by_cases h2 : (rturn e h x n false).2.2 = 0
    · have := (rturn_done h1).2.2.2
      rw [(rturn_done h2).2.2.2] at this
      cases this
    · exact .inr h2
  · exact .inl h1
theorem rturn_other {e : Int} {h : List (List Int)} {x n : Int} {add : Bool} {i : Nat} {m : Int} (hi : i < h.length) (hne : ¬ ((i : Int) = x ∧ m = n)) : holds (rturn e h x n add).2.1 i m = holds h i m := by
  rcases rturn_cases e h x n add with ⟨t, h0, h1⟩ | ⟨y, hy, rfl, h1, h2, h3, h4, h5, h6, h7⟩
  · rw [h1]
  · rw [h7]
    have hin := row_in (right_row' h1 (List.getElem_mem hy)).1
    rw [holds_at (by simpa using hi), holds_at hi]
    rw [List.getElem_set]
    by_cases hiy : y = i
    · subst hiy
      rw [if_pos rfl, nw_has hin h2 h3]
      have : (m == n) = false := by rw [Bool.eq_false_iff]; intro hm; exact hne ⟨rfl, eq_of_beq hm⟩
      rw [this]; rfl
    · rw [if_neg hiy]
theorem rturn_back {e : Int} {h : List (List Int)} {x n : Int} (he : e ≤ 1073741824) (ht : (rturn e h x n true).2.2 = 0) : rturn (e + 1) (rturn e h x n true).2.1 x n false = (e + 2, h, 0) := by
  rcases rturn_cases e h x n true with ⟨t, h0, h1⟩ | ⟨y, hy, rfl, h1, h2, h3, h4, h5, h6, h7⟩
  · rw [h1] at ht; exact absurd ht h0
  · have hin := row_in (right_row' h1 (List.getElem_mem hy)).1
    have hne := (right_row' h1 (List.getElem_mem hy)).2
    have h5' : h[y].contains n = false := h5
    have hr : right (e + 1) (h.set y (nw h[y] n true)) = true := right_set h1 h4 (nw_in _ hin n (n14 h2 h3) true) (nw_ne _ hin n (n14 h2 h3) true (by simp))
    have h0e := (right_e h1).1
    rw [h7]
    have hgd : (h.set y (nw h[y] n true)).getD y [] = nw h[y] n true := by simp [List.getD_eq_getElem?_getD, hy]
    have hmay : may (e + 1) (h.set y (nw h[y] n true)) y n = true := by
      simp only [may, hr, Bool.true_and, Bool.and_eq_true, decide_eq_true_eq, List.length_set]; omega
    have hc : (nw h[y] n true).contains n = true := by rw [nw_has hin h2 h3]; simp
    have hl : ((nw h[y] n true).length == 1) = false := by simpa using nw_len _ hin n (n14 h2 h3) hne h5'
    unfold rturn
    rw [if_neg (by rw [hmay]; simp)]
    simp only [Int.toNat_natCast, hgd, hc, hl]
    rw [rows_set hr (by simpa using hy)]
    simp only [List.getElem_set_self, List.set_set]
    rw [show trow (tst (nw h[y] n true) true n false) 4 1 = nw (nw h[y] n true) n false from rfl, nw_back _ hin n (n14 h2 h3) h5', List.set_getElem_self]
    simp; omega
end Go.Proofs.Ythkehbdljckbdaa.Pv
