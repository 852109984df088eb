/- What the functions of the layers 2, 17 and 21 tell: Index, Contains, Weight, Small. -/
import Derived.Test.YtchjpboiebdabaaSpec3
set_option linter.unusedVariables false
set_option linter.unusedSimpArgs false
namespace Go.Proofs.Ytchjpboiebdabaa.Pv
open Go Go.Pev

theorem index_loop (l : List Int) (x : Int) (hl : l.length ≤ 1000000) : ∀ (k i ck : Nat), i + k = l.length → ∃ c j, 0 ≤ j ∧ evL cfg (.loop f50l0) ⟨[(0, .t (il l)), (1, iv x), (7, iv l.length), (8, iv i)], [], ck⟩ =
    some (if (l.drop i).contains x then (.ret, ⟨[(4, iv j)], [], c⟩) else (.exit 0, ⟨[(0, .t (il l)), (1, iv x), (7, iv l.length), (8, iv l.length), (9, bv false)], [], c⟩)) := by
  intro k
  induction k with
  | zero =>
    intro i ck h
    obtain rfl : i = l.length := by omega
    refine ⟨ck + 1, 0, Int.le_refl _, ?_⟩
    rw [evL_loop]
    simp [f50l0e]
  | succ k ih =>
    intro i ck h
    have hi : i < l.length := by omega
    by_cases hx : l[i] = x
    · refine ⟨ck + 4, i, by omega, ?_⟩
      rw [evL_loop, contains_at hi hx]
      simp [f50l0e, hi, hx]
    · obtain ⟨c, j, hj, hc⟩ := ih (i + 1) (ck + 4) (by omega)
      refine ⟨c, j, hj, ?_⟩
      rw [evL_loop_n (s1 := ⟨[(0, .t (il l)), (1, iv x), (7, iv l.length), (8, iv ((i + 1 : Nat) : Int))], [], ck + 4⟩), hc, contains_not hi hx]
      have hb : (x == l[i]) = false := by simp; exact fun e => hx e.symm
      have hw : IntKind.i64.wrap ((i : Int) + 1) = (i : Int) + 1 := wrap_id (by omega) (by omega)
      simp [f50l0e, hi, hb, hw]

theorem index_ret (l : List Int) (x : Int) (hl : l.length ≤ 1000000) : ∃ j : Int, (0 ≤ j ↔ x ∈ l) ∧ RetT cfg 50 [.t (il l), iv x] (iv j) := by
  obtain ⟨c, j, hj, hc⟩ := index_loop l x hl l.length 0 2 (by omega)
  simp at hc
  by_cases hx : x ∈ l
  · refine ⟨j, by simp [hx, hj], RetT.of ?_⟩
    rw [runL_pf (fn := f50) rfl rfl]
    simp [hx] at hc
    simp [hc]
  · refine ⟨-1, by simp [hx], RetT.of ?_⟩
    rw [runL_pf (fn := f50) rfl rfl]
    simp [hx] at hc
    simp [hc]

theorem contains_ret (l : List Int) (x : Int) (hl : l.length ≤ 1000000) : RetT cfg 37 [.t (il l), iv x] (bv (l.contains x)) := by
  obtain ⟨j, hj, hr⟩ := index_ret l x hl
  have hc := fun s k => callEv_tr (C := cfg) hr rfl rfl rfl s k
  simp only [il, iv] at hc
  refine RetT.of ?_
  rw [runL_pf (fn := f37) rfl rfl]
  by_cases hx : x ∈ l
  · have h0 : 0 ≤ j := hj.2 hx
    simp [hc, hx, h0]
  · have h0 : ¬ 0 ≤ j := fun h => hx (hj.1 h)
    simp [hc, hx, h0]

/-- Rows of numbers. -/
def gl (h : List (List Int)) : T := .l (h.map fun r => [.l (r.map fun n => [.i .i64 n])])
def wt (h : List (List Int)) (node : Int) : Nat := if 1 ≤ node ∧ node ≤ 4 then h.countP (fun r => r.contains node) else 0

theorem countP_at {h : List (List Int)} {i : Nat} (p : List Int → Bool) (hi : i < h.length) : (h.drop i).countP p = (h.drop (i + 1)).countP p + (if p h[i] then 1 else 0) := by
  rw [List.drop_eq_getElem_cons hi, List.countP_cons]

theorem weight_loop (h : List (List Int)) (node : Int) (hh : h.length ≤ 1000000) (hr : ∀ r ∈ h, r.length ≤ 1000000) : ∀ (k i n ck : Nat), i + k = h.length → n ≤ i → ∃ c, evL cfg (.loop f21l0) ⟨[(1, iv node), (5, iv n), (9, .t (gl h)), (10, iv h.length), (11, iv i)], [], ck⟩ =
    some (.exit 0, ⟨[(1, iv node), (5, iv ((n + wt (h.drop i) node : Nat) : Int)), (9, .t (gl h)), (10, iv h.length), (11, iv h.length), (12, bv false)], [], c⟩) := by
  intro k
  induction k with
  | zero =>
    intro i n ck hk hn
    obtain rfl : i = h.length := by omega
    refine ⟨ck + 1, ?_⟩
    rw [evL_loop]
    simp [f21l0e, gl, wt]
  | succ k ih =>
    intro i n ck hk hn
    have hi : i < h.length := by omega
    have hw : IntKind.i64.wrap ((i : Int) + 1) = (i : Int) + 1 := wrap_id (by omega) (by omega)
    have hw2 : IntKind.i64.wrap ((n : Int) + 1) = (n : Int) + 1 := wrap_id (by omega) (by omega)
    have hc := fun s k => callEv_tr (C := cfg) (contains_ret h[i] node (hr _ (List.getElem_mem hi))) rfl rfl rfl s k
    simp only [il, iv, bv] at hc
    by_cases hn1 : 1 ≤ node ∧ node ≤ 4
    · by_cases hx : node ∈ h[i]
      · obtain ⟨c, hcc⟩ := ih (i + 1) (n + 1) (ck + 5) (by omega) (by omega)
        refine ⟨c, ?_⟩
        have h1 : wt (h.drop i) node = wt (h.drop (i + 1)) node + 1 := by
          simp only [wt, hn1, and_self, if_true]
          rw [countP_at _ hi]
          simp [hx]
        rw [evL_loop_n (s1 := ⟨[(1, iv node), (5, iv ((n + 1 : Nat) : Int)), (9, .t (gl h)), (10, iv h.length), (11, iv ((i + 1 : Nat) : Int))], [], ck + 5⟩), hcc]
        · rw [h1]
          have : n + 1 + wt (h.drop (i + 1)) node = n + (wt (h.drop (i + 1)) node + 1) := by omega
          rw [this]
        · simp [f21l0e, gl, hi, hw, hw2, hc, hn1, hx]
      · obtain ⟨c, hcc⟩ := ih (i + 1) n (ck + 4) (by omega) (by omega)
        refine ⟨c, ?_⟩
        have h1 : wt (h.drop i) node = wt (h.drop (i + 1)) node := by
          simp only [wt, hn1, and_self, if_true]
          rw [countP_at _ hi]
          simp [hx]
        rw [evL_loop_n (s1 := ⟨[(1, iv node), (5, iv n), (9, .t (gl h)), (10, iv h.length), (11, iv ((i + 1 : Nat) : Int))], [], ck + 4⟩), hcc, h1]
        simp [f21l0e, gl, hi, hw, hw2, hc, hn1, hx]
    · obtain ⟨c, hcc⟩ := ih (i + 1) n (ck + 4) (by omega) (by omega)
      refine ⟨c, ?_⟩
      have h1 : ∀ g, wt g node = 0 := by intro g; simp only [wt, hn1, if_false]
      rw [evL_loop_n (s1 := ⟨[(1, iv node), (5, iv n), (9, .t (gl h)), (10, iv h.length), (11, iv ((i + 1 : Nat) : Int))], [], ck + 4⟩), hcc, h1, h1]
      by_cases ha : 1 ≤ node
      · have hb : ¬ node ≤ 4 := fun h => hn1 ⟨ha, h⟩
        simp [f21l0e, gl, hi, hw, hw2, hc, ha, hb]
      · simp [f21l0e, gl, hi, hw, hw2, hc, ha]

theorem weight_ret (e : Int) (h : List (List Int)) (node : Int) (hh : h.length ≤ 1000000) (hr : ∀ r ∈ h, r.length ≤ 1000000) : RetT cfg 21 [.ag [iv e, .t (gl h)], iv node] (iv (wt h node)) := by
  obtain ⟨c, hc⟩ := weight_loop h node hh hr h.length 0 0 3 (by omega) (by omega)
  refine RetT.of ?_
  rw [runL_pf (fn := f21) rfl rfl]
  simp [gl] at hc
  simp [gl, hc]
end Go.Proofs.Ytchjpboiebdabaa.Pv
