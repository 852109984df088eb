/- What the document's Begin of the layer 22 tells: the whole. -/
import Derived.Test.YthkehbdljckbdaaSMove2
set_option linter.unusedVariables false
set_option linter.unusedSimpArgs false
namespace Go.Proofs.Ythkehbdljckbdaa.Pv
open Go Go.Pev

set_option maxHeartbeats 4000000 in
theorem rbegin_ret (e : Int) (h : List (List Int)) (x f t : Int) (s : List UInt8) (size : Int) (hh : h.length ≤ 100000) (hr : ∀ r ∈ h, r.length ≤ 100000) (hs : s.length ≤ 100000) : RetT cfg 30 [.ag [iv e, .t (gl h)], iv x, iv f, iv t, .t (.s s), iv size] (begV (beginP e h x f t s size)) := by
  have c2 := fun st k => callEv_tr (C := cfg) (rright_ret e h (by omega) (fun r hm => by have := hr r hm; omega)) rfl rfl rfl st k
  have c5 := fun st k => callEv_tr (C := cfg) (rsum_ret s (by omega)) rfl rfl rfl st k
  simp only [gl, sl, iv, bv] at c2 c5
  unfold RetT
  rw [runL_pf (fn := f30) rfl rfl]
  unfold beginP
  by_cases h1 : right e h = true
  case neg =>
    rw [if_pos (by simp [h1])]
    simp [gl, c2, h1, over, buildV]
    refine ⟨_, _, ⟨rfl, rfl⟩, ?_⟩
    simp [begV, mvV, mv0, resOf, resOfs, resOf1, treesOf, treeOf, bl, sl]
  by_cases q1 : x < 0
  · have h2 : holds h x f = false := by unfold holds; rw [decide_eq_false (by omega)]; rfl
    rw [if_pos (by simp [h2])]
    simp [gl, c2, h1, q1, over, buildV]
    refine ⟨_, _, ⟨rfl, rfl⟩, ?_⟩
    simp [begV, mvV, mv0, resOf, resOfs, resOf1, treesOf, treeOf, bl, sl]
  have d1 : decide (x < 0) = false := decide_eq_false q1
  by_cases q2 : (h.length : Int) ≤ x
  · have h2 : holds h x f = false := by unfold holds; rw [decide_eq_false (by omega)]; rfl
    rw [if_pos (by simp [h2])]
    simp [gl, c2, h1, d1, q2, over, buildV]
    refine ⟨_, _, ⟨rfl, rfl⟩, ?_⟩
    simp [begV, mvV, mv0, resOf, resOfs, resOf1, treesOf, treeOf, bl, sl]
  obtain ⟨y, rfl⟩ : ∃ y : Nat, x = y := ⟨x.toNat, by omega⟩
  have hy : y < h.length := by omega
  have d2 : decide (h.length ≤ y) = false := decide_eq_false (by omega)
  have hry := hr _ (List.getElem_mem hy)
  have hgd : h.getD y [] = h[y] := by simp [List.getD_eq_getElem?_getD, List.getElem?_eq_getElem hy]
  have hho : ∀ n, holds h y n = h[y].contains n := fun n => by simp [holds, hy, hgd]
  have c3 := fun st k => callEv_tr (C := cfg) (has_ret h[y] f (by omega)) rfl rfl rfl st k
  have c4 := fun st k => callEv_tr (C := cfg) (has_ret h[y] t (by omega)) rfl rfl rfl st k
  rw [← hho] at c3 c4
  simp only [il, iv, bv] at c3 c4
  by_cases h2 : holds h y f = true
  case neg =>
    rw [if_pos (by simp [h2])]
    simp [gl, c2, c3, h1, h2, d1, d2, hy, over, buildV]
    refine ⟨_, _, ⟨rfl, rfl⟩, ?_⟩
    simp [begV, mvV, mv0, resOf, resOfs, resOf1, treesOf, treeOf, bl, sl]
  by_cases h3 : t < 1
  · rw [if_pos (by simp [h3])]
    have d3 : decide (t < 1) = true := decide_eq_true h3
    simp [gl, c2, c3, h1, h2, d1, d2, d3, hy, over, buildV]
    refine ⟨_, _, ⟨rfl, rfl⟩, ?_⟩
    simp [begV, mvV, mv0, resOf, resOfs, resOf1, treesOf, treeOf, bl, sl]
  have d3 : decide (t < 1) = false := decide_eq_false h3
  by_cases h4 : 4 < t
  · rw [if_pos (by simp [h4])]
    have d4 : decide (4 < t) = true := decide_eq_true h4
    simp [gl, c2, c3, h1, h2, d1, d2, d3, d4, hy, over, buildV]
    refine ⟨_, _, ⟨rfl, rfl⟩, ?_⟩
    simp [begV, mvV, mv0, resOf, resOfs, resOf1, treesOf, treeOf, bl, sl]
  have d4 : decide (4 < t) = false := decide_eq_false h4
  by_cases h5 : s = []
  · rw [if_pos (by simp [h5])]
    have d5 : (s == []) = true := by simp [h5]
    simp [gl, c2, c3, h1, h2, d1, d2, d3, d4, d5, hy, over, buildV]
    refine ⟨_, _, ⟨rfl, rfl⟩, ?_⟩
    simp [begV, mvV, mv0, resOf, resOfs, resOf1, treesOf, treeOf, bl, sl]
  have d5 : (s == []) = false := by simpa using h5
  by_cases h6 : size < 1
  · rw [if_pos (.inr (.inr (.inr (.inr (.inr (by omega))))))]
    have d6 : decide (size < 1) = true := decide_eq_true h6
    simp [gl, c2, c3, h1, h2, d1, d2, d3, d4, d5, d6, hy, over, buildV]
    refine ⟨_, _, ⟨rfl, rfl⟩, ?_⟩
    simp [begV, mvV, mv0, resOf, resOfs, resOf1, treesOf, treeOf, bl, sl]
  have d6 : decide (size < 1) = false := decide_eq_false h6
  by_cases h7 : 64 < size
  · rw [if_pos (.inr (.inr (.inr (.inr (.inr (by omega))))))]
    have d7 : decide (64 < size) = true := decide_eq_true h7
    simp [gl, c2, c3, h1, h2, d1, d2, d3, d4, d5, d6, d7, hy, over, buildV]
    refine ⟨_, _, ⟨rfl, rfl⟩, ?_⟩
    simp [begV, mvV, mv0, resOf, resOfs, resOf1, treesOf, treeOf, bl, sl]
  have d7 : decide (64 < size) = false := decide_eq_false h7
  rw [if_neg (by simp [h1, h2, h3, h4, h5]; omega)]
  by_cases h8 : holds h y t = true
  · rw [if_pos h8]
    simp [gl, c2, c3, c4, h1, h2, h8, d1, d2, d3, d4, d5, d6, d7, hy, over, buildV]
    refine ⟨_, _, ⟨rfl, rfl⟩, ?_⟩
    simp [begV, mvV, mv0, resOf, resOfs, resOf1, treesOf, treeOf, bl, sl]
  rw [if_neg h8]
  obtain ⟨k, rfl⟩ : ∃ k : Nat, size = k := ⟨size.toNat, by omega⟩
  have hpos : 0 < s.length := List.length_pos_iff.2 h5
  obtain ⟨c1, o1, k2, o2, k3, o3, ck', l1⟩ := rb_first y f t (crcI s) s k (by omega) hpos hs 6
  obtain ⟨i', c1', o1', c2', o2', c3', o3', ck'', l2⟩ := rb_loop y f t (crcI s) s k (by omega) hs s.length k [s.take k] c1 o1 k2 o2 k3 o3 ck' (by omega) (by omega) (by simp; omega)
  have hl : evL cfg (.loop f30l0) _ = _ := (evL_loop_n l1).trans l2
  have hcut : [s.take k] ++ cut k (s.drop k) = cut k s := by rw [cut_cons (by omega) h5]; rfl
  rw [hcut] at hl
  simp only [Int.toNat_natCast]
  generalize cut k s = cc at *
  simp only [rb0, rbH, iv, bv] at hl
  have d6' : decide (k < 1) = false := decide_eq_false (by omega)
  have d7' : decide (64 < k) = false := decide_eq_false (by omega)
  simp [gl, c2, c3, c4, c5, h1, h2, h8, d1, d2, d3, d4, d5, d6, d7, d6', d7', hy, over, buildV, hl]
  refine ⟨_, _, ⟨rfl, rfl⟩, ?_⟩
  simp [begV, mvV, resOf, resOfs, resOf1, treesOf, treeOf, bl, sl]
  try exact List.take_of_length_le (by simp)
end Go.Proofs.Ythkehbdljckbdaa.Pv
