/- What the document's Turn of the layer 17 tells. -/
import Derived.Test.YthkehbdljckbdaaSRet
import Derived.Test.YthkehbdljckbdaaPTurn
import Derived.Test.YthkehbdljckbdaaSHas
import Derived.Test.YthkehbdljckbdaaSRRight
set_option linter.unusedVariables false
set_option linter.unusedSimpArgs false
namespace Go.Proofs.Ythkehbdljckbdaa.Pv
open Go Go.Pev

theorem turn_in (e : Int) (h : List (List Int)) (i : Nat) (hi : i < h.length) (hl : h[i].length ≤ 1000000) (x n : Int) (add : Bool) (v8 v12 : V) (rest : HP) (hrest : rest.get ⟨4, 0, 0⟩ = some (.box 27 [iv e, .t (gl h)])) :
    ∀ (k j : Nat) (acc : List Int) (c o ck : Nat), j + k = 5 → acc.length ≤ j → ∃ c' o' ck', evL cfg (.loop f20l0) ⟨[(1, iv x), (2, iv n), (3, bv add), (4, .pt ⟨4, 0, 0⟩ 2 0 0), (8, v8), (12, v12), (13, iv i), (14, .ow ⟨14, c, o⟩ 1 0 acc.length), (15, iv j)], (⟨14, c, o⟩, .row 3 1 (cl acc) false) :: rest, ck⟩ =
      some (.exit 2, ⟨[(1, iv x), (2, iv n), (3, bv add), (4, .pt ⟨4, 0, 0⟩ 2 0 0), (8, v8), (12, v12), (13, iv i), (14, .ow ⟨14, c', o'⟩ 1 0 (acc ++ trow (tst h[i] ((i : Int) == x) n add) k j).length), (15, iv 5), (85, bv false)], (⟨14, c', o'⟩, .row 3 1 (cl (acc ++ trow (tst h[i] ((i : Int) == x) n add) k j)) false) :: rest, ck'⟩) := by
  have hha := fun m s k => callEv_tr (C := cfg) (has_ret h[i] m hl) rfl rfl rfl s k
  simp only [il, iv, bv] at hha
  simp only [gl, iv] at hrest
  intro k
  induction k with
  | zero =>
    intro j acc c o ck hj _
    obtain rfl : j = 5 := by omega
    refine ⟨c, o, ck + 1, ?_⟩
    rw [evL_loop]
    simp [f20l0e, trow, filt_true]
  | succ k ih =>
    intro j acc c o ck hj hacc
    have hw : IntKind.i64.wrap ((j : Int) + 1) = (j : Int) + 1 := wrap_id (by omega) (by omega)
    have hlt : (j : Int) < 5 := by omega
    have hby : (acc.length + 1) * 8 ≤ 140737488355328 := by omega
    by_cases ht : tst h[i] ((i : Int) == x) n add j = true
    · have htr : acc ++ trow (tst h[i] ((i : Int) == x) n add) (k + 1) j = (acc ++ [(j : Int)]) ++ trow (tst h[i] ((i : Int) == x) n add) k (j + 1) := by
        simp [trow, ht]
      rw [htr]
      by_cases hq : ((i : Int) == x) = true
      · by_cases hq2 : ((j : Int) == n) = true
        · have hadd : add = true := by simpa [tst, hq, hq2] using ht
          obtain ⟨c', o', ck', h3⟩ := ih (j + 1) (acc ++ [(j : Int)]) (ck + 5) 3 (ck + 7) (by omega) (by simp; omega)
          refine ⟨c', o', ck', ?_⟩
          rw [← h3, evL_loop_n (s1 := ⟨[(1, iv x), (2, iv n), (3, bv add), (4, .pt ⟨4, 0, 0⟩ 2 0 0), (8, v8), (12, v12), (13, iv i), (14, .ow ⟨14, ck + 5, 3⟩ 1 0 (acc ++ [(j : Int)]).length), (15, iv ((j + 1 : Nat) : Int))], (⟨14, ck + 5, 3⟩, .row 3 1 (cl (acc ++ [(j : Int)])) false) :: rest, ck + 7⟩)]
          simp [f20l0e, filt_true, hlt, hrest, hi, hha, hq, hq2, hadd, hw, rowsOf, keysOfs, treesC, treesOf, treeOf, freezeAll, app, elsOf, hby, cl]
        · have hq2 : ((j : Int) == n) = false := by simpa using hq2
          have hcn : h[i].contains (j : Int) = true := by simpa [tst, hq, hq2] using ht
          obtain ⟨c', o', ck', h3⟩ := ih (j + 1) (acc ++ [(j : Int)]) (ck + 4) 3 (ck + 6) (by omega) (by simp; omega)
          refine ⟨c', o', ck', ?_⟩
          rw [← h3, evL_loop_n (s1 := ⟨[(1, iv x), (2, iv n), (3, bv add), (4, .pt ⟨4, 0, 0⟩ 2 0 0), (8, v8), (12, v12), (13, iv i), (14, .ow ⟨14, ck + 4, 3⟩ 1 0 (acc ++ [(j : Int)]).length), (15, iv ((j + 1 : Nat) : Int))], (⟨14, ck + 4, 3⟩, .row 3 1 (cl (acc ++ [(j : Int)])) false) :: rest, ck + 6⟩)]
          simp only [List.contains_eq_mem] at hcn
          simp [f20l0e, filt_true, hlt, hrest, hi, hha, hq, hq2, hcn, hw, rowsOf, keysOfs, treesC, treesOf, treeOf, freezeAll, app, elsOf, hby, cl]
      · have hq : ((i : Int) == x) = false := by simpa using hq
        have hcn : h[i].contains (j : Int) = true := by simpa [tst, hq] using ht
        obtain ⟨c', o', ck', h3⟩ := ih (j + 1) (acc ++ [(j : Int)]) (ck + 4) 3 (ck + 6) (by omega) (by simp; omega)
        refine ⟨c', o', ck', ?_⟩
        rw [← h3, evL_loop_n (s1 := ⟨[(1, iv x), (2, iv n), (3, bv add), (4, .pt ⟨4, 0, 0⟩ 2 0 0), (8, v8), (12, v12), (13, iv i), (14, .ow ⟨14, ck + 4, 3⟩ 1 0 (acc ++ [(j : Int)]).length), (15, iv ((j + 1 : Nat) : Int))], (⟨14, ck + 4, 3⟩, .row 3 1 (cl (acc ++ [(j : Int)])) false) :: rest, ck + 6⟩)]
        simp only [List.contains_eq_mem] at hcn
        simp [f20l0e, filt_true, hlt, hrest, hi, hha, hq, hcn, hw, rowsOf, keysOfs, treesC, treesOf, treeOf, freezeAll, app, elsOf, hby, cl]
    · have ht : tst h[i] ((i : Int) == x) n add j = false := by simpa using ht
      have htr : trow (tst h[i] ((i : Int) == x) n add) (k + 1) j = trow (tst h[i] ((i : Int) == x) n add) k (j + 1) := by
        simp [trow, ht]
      rw [htr]
      by_cases hq : ((i : Int) == x) = true
      · by_cases hq2 : ((j : Int) == n) = true
        · have hadd : add = false := by simpa [tst, hq, hq2] using ht
          obtain ⟨c', o', ck', h3⟩ := ih (j + 1) acc c o (ck + 6) (by omega) (by omega)
          refine ⟨c', o', ck', ?_⟩
          rw [← h3, evL_loop_n (s1 := ⟨[(1, iv x), (2, iv n), (3, bv add), (4, .pt ⟨4, 0, 0⟩ 2 0 0), (8, v8), (12, v12), (13, iv i), (14, .ow ⟨14, c, o⟩ 1 0 acc.length), (15, iv ((j + 1 : Nat) : Int))], (⟨14, c, o⟩, .row 3 1 (cl acc) false) :: rest, ck + 6⟩)]
          simp [f20l0e, filt_true, hlt, hrest, hi, hha, hq, hq2, hadd, hw]
        · have hq2 : ((j : Int) == n) = false := by simpa using hq2
          have hcn : h[i].contains (j : Int) = false := by simpa [tst, hq, hq2] using ht
          obtain ⟨c', o', ck', h3⟩ := ih (j + 1) acc c o (ck + 5) (by omega) (by omega)
          refine ⟨c', o', ck', ?_⟩
          rw [← h3, evL_loop_n (s1 := ⟨[(1, iv x), (2, iv n), (3, bv add), (4, .pt ⟨4, 0, 0⟩ 2 0 0), (8, v8), (12, v12), (13, iv i), (14, .ow ⟨14, c, o⟩ 1 0 acc.length), (15, iv ((j + 1 : Nat) : Int))], (⟨14, c, o⟩, .row 3 1 (cl acc) false) :: rest, ck + 5⟩)]
          simp only [List.contains_eq_mem] at hcn
          simp [f20l0e, filt_true, hlt, hrest, hi, hha, hq, hq2, hcn, hw]
      · have hq : ((i : Int) == x) = false := by simpa using hq
        have hcn : h[i].contains (j : Int) = false := by simpa [tst, hq] using ht
        obtain ⟨c', o', ck', h3⟩ := ih (j + 1) acc c o (ck + 5) (by omega) (by omega)
        refine ⟨c', o', ck', ?_⟩
        rw [← h3, evL_loop_n (s1 := ⟨[(1, iv x), (2, iv n), (3, bv add), (4, .pt ⟨4, 0, 0⟩ 2 0 0), (8, v8), (12, v12), (13, iv i), (14, .ow ⟨14, c, o⟩ 1 0 acc.length), (15, iv ((j + 1 : Nat) : Int))], (⟨14, c, o⟩, .row 3 1 (cl acc) false) :: rest, ck + 5⟩)]
        simp only [List.contains_eq_mem] at hcn
        simp [f20l0e, filt_true, hlt, hrest, hi, hha, hq, hcn, hw]

def turnB (e : Int) (h : List (List Int)) (v0 : V) (vs : V) : HP := [(⟨12, 7, 4⟩, .box 27 [iv (e + 1), vs]), (⟨8, 0, 1⟩, .box 27 [iv 0, v0]), (⟨4, 0, 0⟩, .box 27 [iv e, .t (gl h)])]

theorem turn_first (e : Int) (h : List (List Int)) (h0 : 0 < h.length) (hl : ∀ r ∈ h, r.length ≤ 1000000) (x n : Int) (add : Bool) (ck : Nat) :
    ∃ c o ck', evL cfg f20l1 ⟨[(1, iv x), (2, iv n), (3, bv add), (4, .pt ⟨4, 0, 0⟩ 2 0 0), (8, .pt ⟨8, 0, 1⟩ 2 0 0), (12, .pt ⟨12, 7, 4⟩ 2 0 0), (13, iv 0)], turnB e h .nl .nl, ck⟩ =
      some (.normal, ⟨[(1, iv x), (2, iv n), (3, bv add), (4, .pt ⟨4, 0, 0⟩ 2 0 0), (8, .pt ⟨8, 0, 1⟩ 2 0 0), (12, .pt ⟨12, 7, 4⟩ 2 0 0), (13, iv 1)], (⟨113, c, o⟩, .row 36 1 [[il (nrow h x n add 0)]] false) :: turnB e h .nl (.ow ⟨113, c, o⟩ 1 0 1), ck'⟩) := by
  obtain ⟨c', o', ck', h3⟩ := turn_in e h 0 h0 (hl _ (List.getElem_mem h0)) x n add (.pt ⟨8, 0, 1⟩ 2 0 0) (.pt ⟨12, 7, 4⟩ 2 0 0) (turnB e h .nl .nl) (by simp [turnB]) 4 1 [] (ck + 1) 0 (ck + 3) (by omega) (by simp)
  refine ⟨ck', 4, ck' + 2, ?_⟩
  have hg : h.getD 0 [] = h[0] := by simp [List.getD_eq_getElem?_getD, List.getElem?_eq_getElem h0]
  have h0' : (0 : Int) < h.length := by omega
  simp only [nrow, hg]
  simp only [gl, il, iv, bv, cl, turnB, List.nil_append, List.length_nil, List.map_nil, Int.natCast_one, Int.natCast_zero] at h3
  simp only [turnB]
  generalize trow (tst h[0] ((0 : Int) == x) n add) 4 1 = q at *
  simp [f20l1e, h0, gl, h3, rowsOf, keysOfs, treesC, treesOf, treeOf, freezeAll, freeze1, app, elsOf, over]
  exact ⟨by decide, List.take_of_length_le (by simp)⟩

theorem turn_rows (e : Int) (h : List (List Int)) (hh : h.length ≤ 100000) (hl : ∀ r ∈ h, r.length ≤ 1000000) (x n : Int) (add : Bool) : ∀ (k i c o ck : Nat) (rows : List (List Int)), i + k = h.length → rows.length = i →
    ∃ c' o' ck', evL cfg (.loop f20l1) ⟨[(1, iv x), (2, iv n), (3, bv add), (4, .pt ⟨4, 0, 0⟩ 2 0 0), (8, .pt ⟨8, 0, 1⟩ 2 0 0), (12, .pt ⟨12, 7, 4⟩ 2 0 0), (13, iv i)], (⟨113, c, o⟩, .row 36 1 (rows.map fun r => [il r]) false) :: turnB e h .nl (.ow ⟨113, c, o⟩ 1 0 i), ck⟩ =
      some (.exit 0, ⟨[(1, iv x), (2, iv n), (3, bv add), (4, .pt ⟨4, 0, 0⟩ 2 0 0), (8, .pt ⟨8, 0, 1⟩ 2 0 0), (12, .pt ⟨12, 7, 4⟩ 2 0 0), (13, iv h.length), (81, bv false)], (⟨113, c', o'⟩, .row 36 1 ((rows ++ (List.range' i k).map (nrow h x n add)).map fun r => [il r]) false) :: turnB e h .nl (.ow ⟨113, c', o'⟩ 1 0 h.length), ck'⟩) := by
  intro k
  induction k with
  | zero =>
    intro i c o ck rows hi hr
    obtain rfl : i = h.length := by omega
    refine ⟨c, o, ck + 1, ?_⟩
    rw [evL_loop]
    simp [f20l1e, turnB, gl]
  | succ k ih =>
    intro i c o ck rows hi hr
    have hi' : i < h.length := by omega
    have hw : IntKind.i64.wrap ((i : Int) + 1) = (i : Int) + 1 := wrap_id (by omega) (by omega)
    have hg : h.getD i [] = h[i] := by simp [List.getD_eq_getElem?_getD, List.getElem?_eq_getElem hi']
    obtain ⟨c1, o1, ck1, h3⟩ := turn_in e h i hi' (hl _ (List.getElem_mem hi')) x n add (.pt ⟨8, 0, 1⟩ 2 0 0) (.pt ⟨12, 7, 4⟩ 2 0 0) ((⟨113, c, o⟩, .row 36 1 (rows.map fun r => [il r]) false) :: turnB e h .nl (.ow ⟨113, c, o⟩ 1 0 i)) (by simp [turnB]) 4 1 [] (ck + 1) 0 (ck + 3) (by omega) (by simp)
    obtain ⟨c', o', ck', h4⟩ := ih (i + 1) ck1 4 (ck1 + 2) (rows ++ [nrow h x n add i]) (by omega) (by simp [hr])
    refine ⟨c', o', ck', ?_⟩
    rw [List.range'_succ, List.map_cons, List.append_cons, ← h4]
    have hby : (i + 1) * 24 ≤ 140737488355328 := by omega
    rw [evL_loop_n]
    simp only [nrow, hg]
    simp only [gl, il, iv, bv, cl, turnB, List.nil_append, List.length_nil, List.map_nil, Int.natCast_one, Int.natCast_zero] at h3
    simp only [turnB]
    generalize trow (tst h[i] ((i : Int) == x) n add) 4 1 = q at *
    simp [f20l1e, hi', gl, h3, rowsOf, keysOfs, treesC, treesOf, treeOf, freezeAll, freeze1, app, elsOf, over, hw, hr, hby]
    exact List.take_of_length_le (by simp)

theorem rturn_ret (e : Int) (h : List (List Int)) (x n : Int) (add : Bool) (hh : h.length ≤ 100000) (hr : ∀ r ∈ h, r.length ≤ 100000) : RetT cfg 20 [.ag [iv e, .t (gl h)], iv x, iv n, bv add] (.tu [.ag [iv (rturn e h x n add).1, .t (gl (rturn e h x n add).2.1)], iv (rturn e h x n add).2.2]) := by
  have hri := fun s k => callEv_tr (C := cfg) (rright_ret e h (by omega) (fun r hm => by have := hr r hm; omega)) rfl rfl rfl s k
  simp only [gl, il, iv, bv] at hri
  unfold RetT
  rw [runL_pf (fn := f20) rfl rfl]
  unfold rturn
  by_cases h1 : may e h x n = false
  · rw [if_pos h1]
    by_cases g1 : right e h = true
    · by_cases g2 : x < 0
      · simp [gl, il, hri, g1, g2, over]
        refine ⟨_, _, ⟨rfl, rfl⟩, ?_⟩
        simp [resOf, resOfs, resOf1, treesOf, treeOf, gl, il]
      · have d2 : decide (x < 0) = false := decide_eq_false g2
        by_cases g3 : (h.length : Int) ≤ x
        · simp [gl, il, hri, g1, d2, g3, over]
          refine ⟨_, _, ⟨rfl, rfl⟩, ?_⟩
          simp [resOf, resOfs, resOf1, treesOf, treeOf, gl, il]
        · have d3 : decide ((h.length : Int) ≤ x) = false := decide_eq_false g3
          by_cases g4 : n < 1
          · simp [gl, il, hri, g1, d2, d3, g4, over]
            refine ⟨_, _, ⟨rfl, rfl⟩, ?_⟩
            simp [resOf, resOfs, resOf1, treesOf, treeOf, gl, il]
          · have d4 : decide (n < 1) = false := decide_eq_false g4
            by_cases g5 : 4 < n
            · simp [gl, il, hri, g1, d2, d3, d4, g5, over]
              refine ⟨_, _, ⟨rfl, rfl⟩, ?_⟩
              simp [resOf, resOfs, resOf1, treesOf, treeOf, gl, il]
            · have d5 : decide (4 < n) = false := decide_eq_false g5
              have g6 : e = 2147483647 := by
                have := (right_e g1)
                simp only [may, g1, Bool.true_and, Bool.and_eq_false_iff, decide_eq_false_iff_not] at h1
                omega
              subst g6
              simp [gl, il, hri, g1, d2, d3, d4, d5, over]
              refine ⟨_, _, ⟨rfl, rfl⟩, ?_⟩
              simp [resOf, resOfs, resOf1, treesOf, treeOf, gl, il]
    · simp [gl, il, hri, g1, over]
      refine ⟨_, _, ⟨rfl, rfl⟩, ?_⟩
      simp [resOf, resOfs, resOf1, treesOf, treeOf, gl, il]
  · rw [if_neg h1]
    have hp : may e h x n = true := by simpa using h1
    simp only [may, Bool.and_eq_true, decide_eq_true_eq] at hp
    obtain ⟨⟨⟨⟨⟨p1, p2⟩, p3⟩, p4⟩, p5⟩, p6⟩ := hp
    have p0 := (right_e p1).1
    obtain ⟨y, rfl⟩ : ∃ y : Nat, x = y := ⟨x.toNat, by omega⟩
    have hy : y < h.length := by omega
    have hry := hr _ (List.getElem_mem hy)
    have hgd : h.getD y [] = h[y] := by simp [List.getD_eq_getElem?_getD, List.getElem?_eq_getElem hy]
    simp only [Int.toNat_natCast, hgd]
    have hha := fun s k => callEv_tr (C := cfg) (has_ret h[y] n (by omega)) rfl rfl rfl s k
    simp only [il, iv, bv] at hha
    have d2 : decide ((y : Int) < 0) = false := decide_eq_false (by omega)
    have d3 : decide (h.length ≤ y) = false := decide_eq_false (by omega)
    have d4 : decide (n < 1) = false := decide_eq_false (by omega)
    have d5 : decide (4 < n) = false := decide_eq_false (by omega)
    have d6 : (e == 2147483647) = false := by simp; omega
    have hw : IntKind.i64.wrap (e + 1) = e + 1 := wrap_id (by omega) (by omega)
    have hdone : (∀ ck, ∃ c' o' ck', evL cfg (.loop f20l1) ⟨[(1, iv y), (2, iv n), (3, bv add), (4, .pt ⟨4, 0, 0⟩ 2 0 0), (8, .pt ⟨8, 0, 1⟩ 2 0 0), (12, .pt ⟨12, 7, 4⟩ 2 0 0), (13, iv 0)], turnB e h .nl .nl, ck⟩ = some (.exit 0, ⟨[(1, iv y), (2, iv n), (3, bv add), (4, .pt ⟨4, 0, 0⟩ 2 0 0), (8, .pt ⟨8, 0, 1⟩ 2 0 0), (12, .pt ⟨12, 7, 4⟩ 2 0 0), (13, iv h.length), (81, bv false)], (⟨113, c', o'⟩, .row 36 1 (((List.range' 0 h.length).map (nrow h y n add)).map fun r => [il r]) false) :: turnB e h .nl (.ow ⟨113, c', o'⟩ 1 0 h.length), ck'⟩)) := fun ck => by
      obtain ⟨c, o, ck', q1⟩ := turn_first e h (by omega) (fun r hm => by have := hr r hm; omega) y n add ck
      obtain ⟨c', o', ck'', q2⟩ := turn_rows e h hh (fun r hm => by have := hr r hm; omega) y n add (h.length - 1) 1 c o ck' [nrow h y n add 0] (by omega) rfl
      refine ⟨c', o', ck'', ?_⟩
      rw [evL_loop_n q1]
      refine Eq.trans q2 ?_
      have : [nrow h y n add 0] ++ (List.range' 1 (h.length - 1)).map (nrow h y n add) = (List.range' 0 h.length).map (nrow h y n add) := by
        obtain ⟨m, hm⟩ : ∃ m, h.length = m + 1 := ⟨h.length - 1, by omega⟩
        rw [hm, List.range'_succ]; rfl
      rw [this]
    by_cases h2 : h[y].contains n = true
    · cases add with
      | true =>
        simp only [h2, Bool.and_self, if_true]
        simp only [List.contains_eq_mem] at h2
        simp [gl, il, hri, p1, d2, d3, d4, d5, d6, hy, hha, h2, over]
        refine ⟨_, _, ⟨rfl, rfl⟩, ?_⟩
        simp [resOf, resOfs, resOf1, treesOf, treeOf, gl, il]
      | false =>
        by_cases h3 : h[y].length = 1
        · simp only [h2, h3]
          simp only [List.contains_eq_mem] at h2
          simp [gl, il, hri, p1, d2, d3, d4, d5, d6, hy, hha, h2, h3, over]
          refine ⟨_, _, ⟨rfl, rfl⟩, ?_⟩
          simp [resOf, resOfs, resOf1, treesOf, treeOf, gl, il]
        · have h3' : (h[y].length == 1) = false := by simpa using h3
          have h3b : ((h[y].length : Int) == 1) = false := by simp; omega
          simp only [h2, h3']
          simp only [List.contains_eq_mem] at h2
          obtain ⟨c', o', ck', q⟩ := hdone 9
          simp only [gl, il, iv, bv, turnB] at q
          simp [gl, il, hri, p1, d2, d3, d4, d5, d6, hy, hha, h2, h3b, over, hw, q, buildV]
          refine ⟨_, _, ⟨rfl, rfl⟩, ?_⟩
          simp [resOf, resOfs, resOf1, treesOf, treeOf, gl, il]
          exact List.take_of_length_le (by simp)
    · have h2' : h[y].contains n = false := by simpa using h2
      cases add with
      | true =>
        simp only [h2']
        simp only [List.contains_eq_mem] at h2'
        obtain ⟨c', o', ck', q⟩ := hdone 9
        simp only [gl, il, iv, bv, turnB] at q
        simp [gl, il, hri, p1, d2, d3, d4, d5, d6, hy, hha, h2', over, hw, q, buildV]
        refine ⟨_, _, ⟨rfl, rfl⟩, ?_⟩
        simp [resOf, resOfs, resOf1, treesOf, treeOf, gl, il]
        exact List.take_of_length_le (by simp)
      | false =>
        simp only [h2']
        simp only [List.contains_eq_mem] at h2'
        simp [gl, il, hri, p1, d2, d3, d4, d5, d6, hy, hha, h2', over]
        refine ⟨_, _, ⟨rfl, rfl⟩, ?_⟩
        simp [resOf, resOfs, resOf1, treesOf, treeOf, gl, il]
end Go.Proofs.Ythkehbdljckbdaa.Pv
