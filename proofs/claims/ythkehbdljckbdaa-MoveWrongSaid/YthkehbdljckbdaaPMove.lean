/- Plain facts of moves: right pieces, in any order. -/
import Derived.Test.YthkehbdljckbdaaSMove4
set_option linter.unusedVariables false
set_option linter.unusedSimpArgs false
namespace Go.Proofs.Ythkehbdljckbdaa.Pv
open Go Go.Pev

/-- What is there of the pieces. -/
def gots (l : List (List UInt8)) (has : List Bool) : List (List UInt8) := List.zipWith (fun b y => if b then y else []) has l
def mid (x f t sum : Int) (l : List (List UInt8)) (has : List Bool) : Mv := ⟨x, f, t, if has.contains false then 1 else if crcI l.flatten = sum then 2 else 4, sum, has, gots l has⟩

theorem gots_len {l : List (List UInt8)} {has : List Bool} (h : has.length = l.length) : (gots l has).length = l.length := by
  simp [gots, h]
theorem gots_get {l : List (List UInt8)} {has : List Bool} {i : Nat} (h1 : i < has.length) (h2 : i < l.length) (h3 : i < (gots l has).length) : (gots l has)[i] = if has[i] then l[i] else [] := by
  simp [gots]
theorem gots_set {l : List (List UInt8)} {has : List Bool} (h : has.length = l.length) {i : Nat} (hi : i < l.length) : (gots l has).set i l[i] = gots l (has.set i true) := by
  apply List.ext_getElem
  · simp [gots]
  · intro j h1 h2
    have hj : j < l.length := by simp [gots, h] at h1; exact h1
    rw [List.getElem_set, gots_get (by omega) hj, gots_get (by simp; omega) hj, List.getElem_set]
    by_cases e : i = j
    · subst e; simp
    · simp [e]
theorem gots_all {l : List (List UInt8)} {has : List Bool} (h : has.length = l.length) (ha : has.contains false = false) : gots l has = l := by
  apply List.ext_getElem
  · exact gots_len h
  · intro j h1 h2
    rw [gots_get (by omega) h2]
    have : has[j] = true := by
      have hm : has[j] ∈ has := List.getElem_mem (by omega)
      cases hb : has[j]
      · rw [hb] at hm; simp at ha; exact absurd hm ha
      · rfl
    rw [this]; rfl
theorem gots_none (l : List (List UInt8)) : gots l (List.replicate l.length false) = List.replicate l.length [] := by
  apply List.ext_getElem
  · simp [gots]
  · intro j h1 h2
    have hj : j < l.length := by simpa using h2
    rw [gots_get (by simpa using hj) hj]; simp
theorem gots_short {l : List (List UInt8)} {has : List Bool} {b : Nat} (hb : ∀ y ∈ l, y.length ≤ b) : ∀ y ∈ gots l has, y.length ≤ b := by
  intro y hy
  obtain ⟨i, hi, rfl⟩ := List.getElem_of_mem hy
  have h1 : i < has.length := by simp [gots] at hi; omega
  have h2 : i < l.length := by simp [gots] at hi; omega
  rw [gots_get h1 h2]
  split
  · exact hb _ (List.getElem_mem h2)
  · exact Nat.zero_le _

theorem piece_new {x f t sum : Int} {l : List (List UInt8)} {has : List Bool} (h : has.length = l.length) {i : Nat} (hi : i < l.length) (hf : has[i]'(by omega) = false) : pieceP (mid x f t sum l has) i l[i] = (mid x f t sum l (has.set i true), if (has.set i true).contains false then 0 else if crcI l.flatten = sum then 0 else 9) := by
  have hi2 : i < has.length := by omega
  have hc : has.contains false = true := by simp; rw [← hf]; exact List.getElem_mem hi2
  have hgd : has.getD i false = has[i] := by simp [List.getD_eq_getElem?_getD, List.getElem?_eq_getElem hi2]
  unfold pieceP
  simp only [mid, hc, if_true, Int.toNat_natCast, hgd, hf, gots_set h hi]
  have hlen : (gots l has).length = has.length := by rw [gots_len h, h]
  rw [if_neg (by rw [hlen]; omega), if_neg (by simp)]
  by_cases h1 : (has.set i true).contains false = true
  · rw [if_pos h1]; simp only [h1, if_true]
  · rw [if_neg h1]
    have h1 : (has.set i true).contains false = false := by simpa using h1
    rw [gots_all (by simpa using h) h1]
    simp only [h1, Bool.false_eq_true, if_false]
    by_cases h2 : crcI l.flatten = sum
    · rw [if_neg (by simp [h2])]; simp [h2]
    · rw [if_pos h2]; simp [h2]
theorem piece_old {x f t sum : Int} {l : List (List UInt8)} {has : List Bool} (h : has.length = l.length) {i : Nat} (hi : i < l.length) (hf : has[i]'(by omega) = true) (hc : has.contains false = true) (s : List UInt8) : pieceP (mid x f t sum l has) i s = (mid x f t sum l has, 5) := by
  have hi2 : i < has.length := by omega
  have hgd : has.getD i false = has[i] := by simp [List.getD_eq_getElem?_getD, List.getElem?_eq_getElem hi2]
  unfold pieceP
  simp only [mid, hc, if_true, Int.toNat_natCast, hgd, hf]
  have hlen : (gots l has).length = has.length := by rw [gots_len h, h]
  rw [if_neg (by rw [hlen]; omega)]

/-- The first j are there, besides those that were. -/
def fill (has : List Bool) (j : Nat) : List Bool := List.replicate j true ++ has.drop j
theorem fill_len {has : List Bool} {j : Nat} (h : j ≤ has.length) : (fill has j).length = has.length := by simp [fill]; omega
theorem fill_get {has : List Bool} {j : Nat} (h : j < has.length) (h' : j < (fill has j).length) : (fill has j)[j] = has[j] := by
  simp [fill]
theorem fill_set {has : List Bool} {j : Nat} (h : j < has.length) : (fill has j).set j true = fill has (j + 1) := by
  unfold fill
  rw [List.drop_eq_getElem_cons h, List.set_append_right _ _ (by simp), List.length_replicate, Nat.sub_self, List.set_cons_zero, List.replicate_succ', List.append_assoc]
  rfl
theorem fill_next {has : List Bool} {j : Nat} (h : j < has.length) (ht : has[j] = true) : fill has j = fill has (j + 1) := by
  rw [← fill_set h]
  have h1 : j < (fill has j).length := by rw [fill_len (by omega)]; exact h
  have : (fill has j)[j] = true := by rw [fill_get h]; exact ht
  apply List.ext_getElem
  · simp
  · intro i a b
    rw [List.getElem_set]
    split
    · rename_i e; subst e; exact this
    · rfl
theorem fill_all (has : List Bool) : (fill has has.length).contains false = false := by
  rw [fill, List.drop_length, List.append_nil]
  simp [List.mem_replicate]
theorem fill_zero (has : List Bool) : fill has 0 = has := by simp [fill]

/-- How many are missing. -/
theorem miss_set {has : List Bool} {i : Nat} (hi : i < has.length) (hf : has[i] = false) : (has.set i true).count false + 1 = has.count false := by
  rw [List.count_set (by exact hi)]
  simp [hf]
  have : 0 < has.count false := List.count_pos_iff.2 (by rw [← hf]; exact List.getElem_mem hi)
  omega
theorem miss_con (has : List Bool) : has.contains false = decide (0 < has.count false) := by
  rw [Bool.eq_iff_iff]
  simp [List.count_pos_iff]
theorem begin_mid {e : Int} {h : List (List Int)} {x f t : Int} {s : List UInt8} {k : Nat} (hr : right e h = true) (h1 : holds h x f = true) (h2 : holds h x t = false) (ht : 1 ≤ t ∧ t ≤ 4) (hs : s ≠ []) (hk : 1 ≤ k ∧ k ≤ 64) : beginP e h x f t s k = (mid x f t (crcI s) (cut k s) (List.replicate (cut k s).length false), cut k s, 0) := by
  have hp : 0 < (cut k s).length := by rw [cut_cons hk.1 hs]; simp
  unfold beginP
  rw [if_neg (by rintro (q | q | q | q | q | q); · rw [hr] at q; cases q
                 · rw [h1] at q; cases q
                 · omega
                 · omega
                 · exact hs q
                 · omega), if_neg (by simp [h2])]
  simp only [Int.toNat_natCast, mid, gots_none]
  have : (List.replicate (cut k s).length false).contains false = true := by rw [List.contains_eq_mem]; exact decide_eq_true (List.mem_replicate.2 ⟨by omega, rfl⟩)
  rw [if_pos this]
end Go.Proofs.Ythkehbdljckbdaa.Pv
