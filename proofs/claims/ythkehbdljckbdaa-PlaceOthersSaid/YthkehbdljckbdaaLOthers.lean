/- PlaceOthers, PlaceAll, reckoned. -/
import Derived.Test.YthkehbdljckbdaaLBack
set_option linter.unusedVariables false
set_option linter.unusedSimpArgs false
set_option maxRecDepth 100000
namespace Go.Proofs.Ythkehbdljckbdaa.Pv
open Go Go.Pev

def othH (e e1 e2 : Int) (h g1 g2 : List (List Int)) : HP := [(⟨9, 3, 7⟩, .box 24 [iv e2, .t (gl g2)]), (⟨7, 2, 7⟩, .box 24 [iv e1, .t (gl g1)]), (⟨3, 0, 0⟩, .box 24 [iv e, .t (gl h)])]

theorem oth_in (e e1 e2 : Int) (h g1 g2 : List (List Int)) (lh : ∀ r ∈ h, r.length ≤ 1000000) (l1 : ∀ r ∈ g1, r.length ≤ 1000000) (l2 : ∀ r ∈ g2, r.length ≤ 1000000) (x n : Int) (i : Nat) (k1 : ∀ m, ¬ ((i : Int) = x ∧ m = n) → holds g1 i m = holds h i m) (k2 : ∀ m, ¬ ((i : Int) = x ∧ m = n) → holds g2 i m = holds h i m) :
    ∀ (k j ck : Nat), j + k = 5 → ∃ ck', evL cfg (.loop f6l0) ⟨[(1, iv x), (2, iv n), (3, .pt ⟨3, 0, 0⟩ 2 0 0), (7, .pt ⟨7, 2, 7⟩ 2 0 0), (9, .pt ⟨9, 3, 7⟩ 2 0 0), (11, iv i), (12, iv j), (58, iv h.length), (59, iv i)], othH e e1 e2 h g1 g2, ck⟩ =
      some (.exit 2, ⟨[(1, iv x), (2, iv n), (3, .pt ⟨3, 0, 0⟩ 2 0 0), (7, .pt ⟨7, 2, 7⟩ 2 0 0), (9, .pt ⟨9, 3, 7⟩ 2 0 0), (11, iv i), (12, iv 5), (58, iv h.length), (59, iv i), (63, bv false)], othH e e1 e2 h g1 g2, ck'⟩) := by
  intro k
  induction k with
  | zero =>
    intro j ck hj
    obtain rfl : j = 5 := by omega
    refine ⟨ck + 1, ?_⟩
    rw [evL_loop]
    simp [f6l0e, othH]
  | succ k ih =>
    intro j ck hj
    have hw : IntKind.i64.wrap ((j : Int) + 1) = (j : Int) + 1 := wrap_id (by omega) (by omega)
    have hlt : (j : Int) < 5 := by omega
    by_cases hb : (i : Int) = x ∧ (j : Int) = n
    · obtain ⟨ck', h3⟩ := ih (j + 1) (ck + 3) (by omega)
      refine ⟨ck', ?_⟩
      rw [evL_loop_n (s1 := ⟨[(1, iv x), (2, iv n), (3, .pt ⟨3, 0, 0⟩ 2 0 0), (7, .pt ⟨7, 2, 7⟩ 2 0 0), (9, .pt ⟨9, 3, 7⟩ 2 0 0), (11, iv i), (12, iv ((j + 1 : Nat) : Int)), (58, iv h.length), (59, iv i)], othH e e1 e2 h g1 g2, ck + 3⟩), h3]
      obtain ⟨rfl, rfl⟩ := hb
      simp [f6l0e, othH, hlt, hw]
    · have q0 := fun hp => callQ_tr (C := cfg) (holds_ret e h i j lh) rfl hp
      have q1 := fun hp => callQ_tr (C := cfg) (holds_ret e1 g1 i j l1) rfl hp
      have q2 := fun hp => callQ_tr (C := cfg) (holds_ret e2 g2 i j l2) rfl hp
      rw [k1 _ hb] at q1
      rw [k2 _ hb] at q2
      simp only [gl, iv, bv] at q0 q1 q2
      obtain ⟨ck', h3⟩ := ih (j + 1) (ck + 4) (by omega)
      refine ⟨ck', ?_⟩
      rw [evL_loop_n (s1 := ⟨[(1, iv x), (2, iv n), (3, .pt ⟨3, 0, 0⟩ 2 0 0), (7, .pt ⟨7, 2, 7⟩ 2 0 0), (9, .pt ⟨9, 3, 7⟩ 2 0 0), (11, iv i), (12, iv ((j + 1 : Nat) : Int)), (58, iv h.length), (59, iv i)], othH e e1 e2 h g1 g2, ck + 4⟩), h3]
      by_cases hb1 : ((i : Int) == x) = true
      · have hb2 : ((j : Int) == n) = false := by
          rw [Bool.eq_false_iff]; intro h; exact hb ⟨eq_of_beq hb1, eq_of_beq h⟩
        simp [f6l0e, othH, gl, hlt, hw, hb1, hb2, q0, q1, q2]
      · have hb1 : ((i : Int) == x) = false := by simpa using hb1
        simp [f6l0e, othH, gl, hlt, hw, hb1, q0, q1, q2]

theorem oth_out (e e1 e2 : Int) (h g1 g2 : List (List Int)) (lh0 : h.length ≤ 1000000) (lh : ∀ r ∈ h, r.length ≤ 1000000) (l1 : ∀ r ∈ g1, r.length ≤ 1000000) (l2 : ∀ r ∈ g2, r.length ≤ 1000000) (x n : Int) (k1 : ∀ (i : Nat) m, i < h.length → ¬ ((i : Int) = x ∧ m = n) → holds g1 i m = holds h i m) (k2 : ∀ (i : Nat) m, i < h.length → ¬ ((i : Int) = x ∧ m = n) → holds g2 i m = holds h i m) :
    ∀ (k i ck : Nat), i + k = h.length → ∃ ck', evL cfg (.loop f6l1) ⟨[(1, iv x), (2, iv n), (3, .pt ⟨3, 0, 0⟩ 2 0 0), (7, .pt ⟨7, 2, 7⟩ 2 0 0), (9, .pt ⟨9, 3, 7⟩ 2 0 0), (58, iv h.length), (59, iv i)], othH e e1 e2 h g1 g2, ck⟩ =
      some (.exit 0, ⟨[(1, iv x), (2, iv n), (3, .pt ⟨3, 0, 0⟩ 2 0 0), (7, .pt ⟨7, 2, 7⟩ 2 0 0), (9, .pt ⟨9, 3, 7⟩ 2 0 0), (58, iv h.length), (59, iv h.length), (60, bv false)], othH e e1 e2 h g1 g2, ck'⟩) := by
  intro k
  induction k with
  | zero =>
    intro i ck hi
    obtain rfl : i = h.length := by omega
    refine ⟨ck + 1, ?_⟩
    rw [evL_loop]
    simp [f6l1e, othH]
  | succ k ih =>
    intro i ck hi
    have hi' : i < h.length := by omega
    have hw : IntKind.i64.wrap ((i : Int) + 1) = (i : Int) + 1 := wrap_id (by omega) (by omega)
    obtain ⟨c1, h2⟩ := oth_in e e1 e2 h g1 g2 lh l1 l2 x n i (fun m => k1 i m hi') (fun m => k2 i m hi') 4 1 (ck + 3) (by omega)
    obtain ⟨ck', h3⟩ := ih (i + 1) (c1 + 1) (by omega)
    refine ⟨ck', ?_⟩
    rw [evL_loop_n (s1 := ⟨[(1, iv x), (2, iv n), (3, .pt ⟨3, 0, 0⟩ 2 0 0), (7, .pt ⟨7, 2, 7⟩ 2 0 0), (9, .pt ⟨9, 3, 7⟩ 2 0 0), (58, iv h.length), (59, iv ((i + 1 : Nat) : Int))], othH e e1 e2 h g1 g2, c1 + 1⟩), h3]
    simp only [othH, gl, iv, bv, Int.natCast_one] at h2
    simp [f6l1e, othH, gl, hi', hw, h2]

set_option maxHeartbeats 4000000 in
theorem pothers (e : Int) (h : List (List Int)) (x n : Int) : ∃ hp c, runL cfg 6 [mapV e h, iv x, iv n] [] 0 = some (bv true, hp, c) := by
  have ha := fun s k => callEv_tr (C := cfg) awake17_ret rfl rfl rfl s k
  have hs := fun s k => callEv_tr (C := cfg) (small_ret h) rfl rfl rfl s k
  simp only [bv, gl] at ha hs
  rw [runL_pf (fn := f6) rfl rfl]
  by_cases h1 : small h = true
  · rw [h1] at hs
    obtain ⟨l1, l2⟩ := small_iff.1 h1
    have h2 := fun s k => callEv_tr (C := cfg) (add_ret e h x n (by omega) (fun r hm => by have := l2 r hm; omega)) rfl rfl rfl s k
    have h3 := fun s k => callEv_tr (C := cfg) (retire_ret e h x n (by omega) (fun r hm => by have := l2 r hm; omega)) rfl rfl rfl s k
    have k1 := rturn_len (e := e) (h := h) x n true
    have k2 := rturn_len (e := e) (h := h) x n false
    have k3 := rturn_rows (e := e) (h := h) (b := 1000) (by omega) (fun r hm => by have := l2 r hm; omega) x n true
    have k4 := rturn_rows (e := e) (h := h) (b := 1000) (by omega) (fun r hm => by have := l2 r hm; omega) x n false
    have k5 := fun (i : Nat) m hi hne => rturn_other (e := e) (h := h) (x := x) (n := n) (add := true) (i := i) (m := m) hi hne
    have k6 := fun (i : Nat) m hi hne => rturn_other (e := e) (h := h) (x := x) (n := n) (add := false) (i := i) (m := m) hi hne
    have k7 := rturn_both e h x n
    generalize rturn e h x n true = p at *
    generalize rturn e h x n false = q at *
    obtain ⟨e1, g1, t1⟩ := p
    obtain ⟨e2, g2, t2⟩ := q
    simp only at k1 k2 k3 k4 k5 k6 k7
    obtain ⟨c, hl⟩ := oth_out e e1 e2 h g1 g2 (by omega) (fun r hm => by have := l2 r hm; omega) (fun r hm => by have := k3 r hm; omega) (fun r hm => by have := k4 r hm; omega) x n k5 k6 h.length 0 6 (by omega)
    simp only [mapV, othH, gl, il, iv, bv, Int.natCast_zero] at h2 h3 hl
    by_cases ht1 : (t1 == 0) = true
    · have ht2 : (t2 == 0) = false := by
        have : t1 = 0 := eq_of_beq ht1
        rcases k7 with h | h
        · exact absurd this h
        · simpa using h
      simp [mapV, gl, hs, ha, h2, h3, hl, over, k1, k2, ht1, ht2]
    · have ht1 : (t1 == 0) = false := by simpa using ht1
      simp [mapV, gl, hs, ha, h2, h3, hl, over, k1, k2, ht1]
  · simp [mapV, gl, hs, ha, h1]

theorem placeOthers_ev (xs : List V) (h : ArgsFit PP 8 [24, 3, 3] xs) : ∃ hp c, runL cfg 6 xs [] 0 = some (bv true, hp, c) := by
  obtain ⟨x1, r, rfl, h1, h⟩ := argsFit_cons h
  obtain ⟨x2, r, rfl, h2, h⟩ := argsFit_cons h
  obtain ⟨x3, r, rfl, h3, h⟩ := argsFit_cons h
  cases argsFit_nil h
  obtain ⟨e, l, rfl, he, _⟩ := a_map h1
  obtain ⟨x, rfl, _⟩ := a_int h2
  obtain ⟨n, rfl, _⟩ := a_int h3
  exact pothers e l x n

/-! ### all are picked -/
theorem any_four {l : List Int} (hne : l ≠ []) (h4 : l.length ≤ 4) (n : Int) : ((List.range 4).any fun k => l.getD (k % l.length) 0 == n) = l.contains n := by
  have hpos : 0 < l.length := List.length_pos_iff.2 hne
  rw [Bool.eq_iff_iff]
  simp only [List.any_eq_true, List.mem_range, beq_iff_eq, List.contains_eq_mem, decide_eq_true_eq]
  constructor
  · rintro ⟨k, _, rfl⟩
    have : k % l.length < l.length := Nat.mod_lt _ hpos
    rw [List.getD_eq_getElem?_getD, List.getElem?_eq_getElem this]
    exact List.getElem_mem this
  · intro h
    obtain ⟨i, hi, rfl⟩ := List.getElem_of_mem h
    refine ⟨i, by omega, ?_⟩
    rw [Nat.mod_eq_of_lt hi, List.getD_eq_getElem?_getD, List.getElem?_eq_getElem hi]; rfl

theorem all_loop (e : Int) (h : List (List Int)) (lh0 : h.length ≤ 100000) (lh : ∀ r ∈ h, r.length ≤ 100000) (y : Nat) (hy : y < h.length) (hr : right e h = true) (n : Int) :
    ∀ (k j ck : Nat) (b : Bool), j + k = 4 → ∃ ck', evL cfg (.loop f8l0) ⟨[(1, iv y), (2, iv n), (3, .pt ⟨3, 0, 0⟩ 2 0 0), (7, bv b), (32, iv j)], [(⟨3, 0, 0⟩, .box 24 [iv e, .t (gl h)])], ck⟩ =
      some (.exit 0, ⟨[(1, iv y), (2, iv n), (3, .pt ⟨3, 0, 0⟩ 2 0 0), (7, bv (b || (List.range' j k).any fun k => h[y].getD (k % h[y].length) 0 == n)), (32, iv 4), (33, bv false)], [(⟨3, 0, 0⟩, .box 24 [iv e, .t (gl h)])], ck'⟩) := by
  have hne := (right_row' hr (List.getElem_mem hy)).2
  have hpos : 0 < h[y].length := List.length_pos_iff.2 hne
  intro k
  induction k with
  | zero =>
    intro j ck b hj
    obtain rfl : j = 4 := by omega
    refine ⟨ck + 1, ?_⟩
    rw [evL_loop]
    simp [f8l0e]
  | succ k ih =>
    intro j ck b hj
    have hw : IntKind.i64.wrap ((j : Int) + 1) = (j : Int) + 1 := wrap_id (by omega) (by omega)
    have hlt : (j : Int) < 4 := by omega
    have hgd : h.getD y [] = h[y] := by simp [List.getD_eq_getElem?_getD, List.getElem?_eq_getElem hy]
    have hpk : ppick e h y j = (h[y].getD (j % h[y].length) 0, true) := by
      unfold ppick
      rw [if_pos ⟨hr, by omega, by omega, by omega⟩]
      simp only [Int.toNat_natCast, hgd]
    have h2 := fun s k => callEv_tr (C := cfg) (ppick_ret e h y j (by omega) lh) rfl rfl rfl s k
    rw [hpk] at h2
    have hm : j % h[y].length < h[y].length := Nat.mod_lt _ hpos
    have h3 := fun s k => callEv_tr (C := cfg) (holds_ret e h y (h[y].getD (j % h[y].length) 0) (fun r hm => by have := lh r hm; omega)) rfl rfl rfl s k
    have hgm : h[y].getD (j % h[y].length) 0 = h[y][j % h[y].length] := by simp [List.getD_eq_getElem?_getD, List.getElem?_eq_getElem hm]
    have hho : holds h y h[y][j % h[y].length] = true := by rw [holds_at hy]; simp
    rw [List.range'_succ, List.any_cons, ← Bool.or_assoc, hgm]
    rw [hgm] at h2 h3
    rw [hho] at h3
    generalize h[y][j % h[y].length] = z at *
    obtain ⟨ck', h4⟩ := ih (j + 1) (ck + 6) (b || z == n) (by omega)
    refine ⟨ck', ?_⟩
    rw [← h4, evL_loop_n]
    simp only [gl, iv, bv] at h2 h3
    cases b <;> simp [f8l0e, gl, hlt, hw, h2, h3]

set_option maxHeartbeats 4000000 in
theorem pall (e : Int) (h : List (List Int)) (x n : Int) : ∃ hp c, runL cfg 8 [mapV e h, iv x, iv n] [] 0 = some (bv true, hp, c) := by
  have ha := fun s k => callEv_tr (C := cfg) awake17_ret rfl rfl rfl s k
  have hs := fun s k => callEv_tr (C := cfg) (small_ret h) rfl rfl rfl s k
  simp only [bv, gl] at ha hs
  rw [runL_pf (fn := f8) rfl rfl]
  by_cases h1 : small h = true
  · rw [h1] at hs
    obtain ⟨l1, l2⟩ := small_iff.1 h1
    have h4 := fun s k => callEv_tr (C := cfg) (pright_ret e h (by omega) (fun r hm => by have := l2 r hm; omega)) rfl rfl rfl s k
    by_cases q3 : right e h = true
    · rw [q3] at h4
      by_cases q1 : 0 ≤ x
      · have d1 : decide (x < 0) = false := decide_eq_false (by omega)
        by_cases q2 : x < h.length
        · have d2 : decide ((h.length : Int) ≤ x) = false := decide_eq_false (by omega)
          obtain ⟨y, rfl⟩ : ∃ y : Nat, x = y := ⟨x.toNat, by omega⟩
          have hy : y < h.length := by omega
          have h5 := fun s k => callEv_tr (C := cfg) (holds_ret e h y n (fun r hm => by have := l2 r hm; omega)) rfl rfl rfl s k
          have hrow := right_row' q3 (List.getElem_mem hy)
          have hlen := rowUp_len hrow.1
          obtain ⟨c, hl⟩ := all_loop e h (by omega) (fun r hm => by have := l2 r hm; omega) y hy q3 n 4 0 4 false (by omega)
          have hany := any_four hrow.2 hlen n
          rw [List.range_eq_range'] at hany
          rw [Bool.false_or, hany] at hl
          rw [holds_at hy] at h5
          have d3 : decide (h.length ≤ y) = false := decide_eq_false (by omega)
          generalize h[y].contains n = bb at *
          simp only [mapV, gl, il, iv, bv, Int.natCast_zero] at h4 h5 hl
          simp [mapV, gl, hs, ha, h4, h5, hl, d1, d2, d3]
        · have d2 : decide ((h.length : Int) ≤ x) = true := decide_eq_true (by omega)
          simp only [mapV, gl, il, iv, bv] at h4
          simp [mapV, gl, hs, ha, h4, d1, d2]
      · have d1 : decide (x < 0) = true := decide_eq_true (by omega)
        simp only [mapV, gl, il, iv, bv] at h4
        simp [mapV, gl, hs, ha, h4, d1]
    · have q3 : right e h = false := by simpa using q3
      rw [q3] at h4
      simp only [mapV, gl, il, iv, bv] at h4
      simp [mapV, gl, hs, ha, h4]
  · simp [mapV, gl, hs, ha, h1]

theorem placeAll_ev (xs : List V) (h : ArgsFit PP 8 [24, 3, 3] xs) : ∃ hp c, runL cfg 8 xs [] 0 = some (bv true, hp, c) := by
  obtain ⟨x1, r, rfl, h1, h⟩ := argsFit_cons h
  obtain ⟨x2, r, rfl, h2, h⟩ := argsFit_cons h
  obtain ⟨x3, r, rfl, h3, h⟩ := argsFit_cons h
  cases argsFit_nil h
  obtain ⟨e, l, rfl, he, _⟩ := a_map h1
  obtain ⟨x, rfl, _⟩ := a_int h2
  obtain ⟨n, rfl, _⟩ := a_int h3
  exact pall e l x n
end Go.Proofs.Ythkehbdljckbdaa.Pv
