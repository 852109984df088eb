/- Is a map right? -/
import Derived.Test.YthkehbdljckbdaaBase
set_option linter.unusedVariables false
set_option linter.unusedSimpArgs false
namespace Go.Proofs.Ythkehbdljckbdaa.Pv
open Go Go.Pev
/-- A row of nodes, above one. -/
def rowUp : Int → List Int → Bool
  | _, [] => true
  | last, n :: r => decide (last < n) && decide (n ≤ 4) && rowUp n r
def right (e : Int) (h : List (List Int)) : Bool := decide (0 ≤ e ∧ e ≤ 2147483647 ∧ h.length ≤ 8) && h.all fun r => rowUp 0 r && !r.isEmpty

theorem rowUp_at {r : List Int} {j : Nat} (last : Int) (hj : j < r.length) : rowUp last (r.drop j) = (decide (last < r[j]) && decide (r[j] ≤ 4) && rowUp r[j] (r.drop (j + 1))) := by
  rw [List.drop_eq_getElem_cons hj]; rfl

theorem right_row (r : List Int) (g n i : V) (ty : Nat) (bx : List V) (hr : r.length ≤ 1000000) : ∀ (k j : Nat) (last : Int) (ck : Nat), j + k = r.length → ∃ c last', evL cfg (.loop f22l0) ⟨[(1, .pt ⟨1, 0, 0⟩ 2 0 0), (4, .t (il r)), (5, iv last), (9, g), (10, n), (11, i), (15, .t (il r)), (16, iv r.length), (17, iv j)], [(⟨1, 0, 0⟩, .box ty bx)], ck⟩ =
    some (if rowUp last (r.drop j) then (.exit 2, ⟨[(1, .pt ⟨1, 0, 0⟩ 2 0 0), (4, .t (il r)), (5, iv last'), (9, g), (10, n), (11, i), (15, .t (il r)), (16, iv r.length), (17, iv r.length), (18, bv false)], [(⟨1, 0, 0⟩, .box ty bx)], c⟩) else (.ret, ⟨[(2, bv false)], [], c⟩)) := by
  intro k
  induction k with
  | zero =>
    intro j last ck h
    obtain rfl : j = r.length := by omega
    refine ⟨ck + 1, last, ?_⟩
    rw [evL_loop]
    simp [f22l0e, rowUp]
  | succ k ih =>
    intro j last ck h
    have hj : j < r.length := by omega
    have hw : IntKind.i64.wrap ((j : Int) + 1) = (j : Int) + 1 := wrap_id (by omega) (by omega)
    rw [rowUp_at last hj]
    by_cases h1 : r[j] ≤ last
    · refine ⟨ck + 4, 0, ?_⟩
      have h1' : ¬ last < r[j] := by omega
      rw [evL_loop]
      simp [f22l0e, hj, h1, h1']
    · have h1' : last < r[j] := by omega
      by_cases h2 : 4 < r[j]
      · have h2' : ¬ r[j] ≤ 4 := by omega
        refine ⟨ck + 4, 0, ?_⟩
        rw [evL_loop]
        simp [f22l0e, hj, h1, h1', h2, h2']
      · have h2' : r[j] ≤ 4 := by omega
        obtain ⟨c, last', hc⟩ := ih (j + 1) r[j] (ck + 5) (by omega)
        refine ⟨c, last', ?_⟩
        rw [evL_loop_n (s1 := ⟨[(1, .pt ⟨1, 0, 0⟩ 2 0 0), (4, .t (il r)), (5, iv r[j]), (9, g), (10, n), (11, i), (15, .t (il r)), (16, iv r.length), (17, iv ((j + 1 : Nat) : Int))], [(⟨1, 0, 0⟩, .box ty bx)], ck + 5⟩), hc]
        · simp [h1', h2']
        · simp [f22l0e, hj, h1, h2, hw]

theorem right_rows (e : Int) (h : List (List Int)) (ty : Nat) (hh : h.length ≤ 1000000) (hr : ∀ r ∈ h, r.length ≤ 1000000) : ∀ (k i ck : Nat), i + k = h.length → ∃ c, evL cfg (.loop f22l1) ⟨[(1, .pt ⟨1, 0, 0⟩ 2 0 0), (9, .t (gl h)), (10, iv h.length), (11, iv i)], [(⟨1, 0, 0⟩, .box ty [iv e, .t (gl h)])], ck⟩ =
    some (if ((h.drop i).all fun r => rowUp 0 r && !r.isEmpty) then (.exit 0, ⟨[(1, .pt ⟨1, 0, 0⟩ 2 0 0), (9, .t (gl h)), (10, iv h.length), (11, iv h.length), (12, bv false)], [(⟨1, 0, 0⟩, .box ty [iv e, .t (gl h)])], c⟩) else (.ret, ⟨[(2, bv false)], [], c⟩)) := by
  intro k
  induction k with
  | zero =>
    intro i ck hk
    obtain rfl : i = h.length := by omega
    refine ⟨ck + 1, ?_⟩
    rw [evL_loop]
    simp [f22l1e, gl]
  | succ k ih =>
    intro i ck hk
    have hi : i < h.length := by omega
    have hw : IntKind.i64.wrap ((i : Int) + 1) = (i : Int) + 1 := wrap_id (by omega) (by omega)
    have hri := hr _ (List.getElem_mem hi)
    have hall : ((h.drop i).all fun r => rowUp 0 r && !r.isEmpty) = ((rowUp 0 h[i] && !h[i].isEmpty) && ((h.drop (i + 1)).all fun r => rowUp 0 r && !r.isEmpty)) := by
      rw [List.drop_eq_getElem_cons hi]; rfl
    obtain ⟨c0, last', hc0⟩ := right_row h[i] (.t (gl h)) (iv h.length) (iv i) ty [iv e, .t (gl h)] hri h[i].length 0 0 (ck + 4) (by omega)
    simp only [List.drop_zero, gl, il, iv, bv, Int.natCast_zero] at hc0
    by_cases h1 : rowUp 0 h[i] = true
    · rw [if_pos h1] at hc0
      by_cases h2 : h[i].length = 0
      · have h2' : h[i] = [] := List.eq_nil_of_length_eq_zero h2
        refine ⟨c0 + 2, ?_⟩
        have hb : (((h[i].length : Nat) : Int) == 0) = true := by simp [h2]
        rw [evL_loop, hall, if_neg (by simp [h2'])]
        simp [f22l1e, gl, hi, hc0, hb]
      · have h2' : ¬ h[i] = [] := fun e => h2 (by rw [e]; rfl)
        obtain ⟨c, hc⟩ := ih (i + 1) (c0 + 2) (by omega)
        refine ⟨c, ?_⟩
        rw [evL_loop_n (s1 := ⟨[(1, .pt ⟨1, 0, 0⟩ 2 0 0), (9, .t (gl h)), (10, iv h.length), (11, iv ((i + 1 : Nat) : Int))], [(⟨1, 0, 0⟩, .box ty [iv e, .t (gl h)])], c0 + 2⟩), hc]
        · rw [hall]; simp [h1, h2']
        · have hb : (((h[i].length : Nat) : Int) == 0) = false := by simp; exact h2'
          simp [f22l1e, gl, hi, hc0, hb, hw]
    · rw [if_neg h1] at hc0
      refine ⟨c0, ?_⟩
      rw [evL_loop, hall]
      simp [f22l1e, gl, hi, hc0, h1]

theorem pright_ret (e : Int) (h : List (List Int)) (hh : h.length ≤ 1000000) (hr : ∀ r ∈ h, r.length ≤ 1000000) : RetT cfg 22 [.ag [iv e, .t (gl h)]] (bv (right e h)) := by
  obtain ⟨c, hc⟩ := right_rows e h 24 hh hr h.length 0 2 (by omega)
  refine RetT.of ?_
  rw [runL_pf (fn := f22) rfl rfl]
  simp only [List.drop_zero, gl, il, iv, bv, Int.natCast_zero] at hc
  by_cases h1 : (h.all fun r => rowUp 0 r && !r.isEmpty) = true
  · rw [if_pos h1] at hc
    by_cases h2 : 0 ≤ e
    · by_cases h3 : e ≤ 2147483647
      · by_cases h4 : (h.length : Int) ≤ 8
        · have h4' : h.length ≤ 8 := by omega
          simp [gl, hc, right, h1, h2, h3, h4, h4']
        · have h4' : ¬ h.length ≤ 8 := by omega
          simp [gl, hc, right, h1, h2, h3, h4, h4']
      · simp [gl, hc, right, h1, h2, h3]
    · simp [gl, hc, right, h1, h2]
  · rw [if_neg h1] at hc
    simp [gl, hc, right, h1]
end Go.Proofs.Ythkehbdljckbdaa.Pv
