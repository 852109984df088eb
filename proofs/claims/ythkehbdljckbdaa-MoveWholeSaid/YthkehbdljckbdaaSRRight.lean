/- The document's Right of the layer 17. -/
import Derived.Test.YthkehbdljckbdaaSRight
set_option linter.unusedVariables false
set_option linter.unusedSimpArgs false
namespace Go.Proofs.Ythkehbdljckbdaa.Pv
open Go Go.Pev
theorem rright_row (r : List Int) (i : V) (ty : Nat) (bx : List V) (hr : r.length ≤ 1000000) : ∀ (k j : Nat) (last : Int) (ck : Nat), j + k = r.length → ((j = 0 ∧ last = 0) ∨ (0 < j ∧ r[j - 1]? = some last ∧ 1 ≤ last)) → ∃ c, evL cfg (.loop f26l0) ⟨[(1, .pt ⟨1, 0, 0⟩ 2 0 0), (3, i), (4, .t (il r)), (5, iv j)], [(⟨1, 0, 0⟩, .box ty bx)], ck⟩ =
    some (if rowUp last (r.drop j) then (.exit 2, ⟨[(1, .pt ⟨1, 0, 0⟩ 2 0 0), (3, i), (4, .t (il r)), (5, iv r.length), (38, bv false)], [(⟨1, 0, 0⟩, .box ty bx)], c⟩) else (.ret, ⟨[(2, bv false)], [], c⟩)) := by
  intro k
  induction k with
  | zero =>
    intro j last ck h _
    obtain rfl : j = r.length := by omega
    refine ⟨ck + 1, ?_⟩
    rw [evL_loop]
    simp [f26l0e, rowUp]
  | succ k ih =>
    intro j last ck h hlast
    have hj : j < r.length := by omega
    have hw : IntKind.i64.wrap ((j : Int) + 1) = (j : Int) + 1 := wrap_id (by omega) (by omega)
    have hw2 : IntKind.i64.wrap ((j : Int) - 1) = (j : Int) - 1 := wrap_id (by omega) (by omega)
    rw [rowUp_at last hj]
    by_cases h1 : r[j] < 1
    · have h1' : ¬ last < r[j] := by rcases hlast with ⟨_, h⟩ | ⟨_, _, h⟩ <;> omega
      refine ⟨ck + 3, ?_⟩
      rw [evL_loop]
      simp [f26l0e, hj, h1, h1']
    · by_cases h2 : 4 < r[j]
      · have h2' : ¬ r[j] ≤ 4 := by omega
        refine ⟨ck + 3, ?_⟩
        rw [evL_loop]
        simp [f26l0e, hj, h1, h2, h2']
      · have h2' : r[j] ≤ 4 := by omega
        rcases hlast with ⟨rfl, rfl⟩ | ⟨h0, hl1, hl2⟩
        · obtain ⟨c, hc⟩ := ih 1 r[0] (ck + 3) (by omega) (.inr ⟨by omega, by simp [hj], by omega⟩)
          have h3 : (0 : Int) < r[0] := by omega
          refine ⟨c, ?_⟩
          rw [evL_loop_n (s1 := ⟨[(1, .pt ⟨1, 0, 0⟩ 2 0 0), (3, i), (4, .t (il r)), (5, iv ((1 : Nat) : Int))], [(⟨1, 0, 0⟩, .box ty bx)], ck + 3⟩), hc]
          · have h3d : decide ((0 : Int) < r[0]) = true := by simpa using h3
            have h2d : decide (r[0] ≤ 4) = true := by simpa using h2'
            rw [h3d, h2d, Bool.true_and, Bool.true_and]
          · simp at hw
            simp [f26l0e, hj, h1, h2, hw]
        · have h0' : (0 : Int) < j := by omega
          have h4 : (1 : Int) ≤ (j : Int) := by omega
          have h5 : ((j : Int) - 1).toNat = j - 1 := by omega
          have hj1 : j - 1 < r.length := by omega
          have hl1' : r[j - 1] = last := by rw [List.getElem?_eq_getElem hj1] at hl1; exact Option.some.inj hl1
          by_cases h3 : r[j] ≤ last
          · have h3' : ¬ last < r[j] := by omega
            refine ⟨ck + 3, ?_⟩
            rw [evL_loop]
            simp [f26l0e, hj, h1, h2, h0', h0, hw2, h4, h5, hj1, hl1', h3, h3']
          · have h3' : last < r[j] := by omega
            obtain ⟨c, hc⟩ := ih (j + 1) r[j] (ck + 3) (by omega) (.inr ⟨by omega, by simp [hj], by omega⟩)
            refine ⟨c, ?_⟩
            rw [evL_loop_n (s1 := ⟨[(1, .pt ⟨1, 0, 0⟩ 2 0 0), (3, i), (4, .t (il r)), (5, iv ((j + 1 : Nat) : Int))], [(⟨1, 0, 0⟩, .box ty bx)], ck + 3⟩), hc]
            · simp [h2', h3']
            · simp [f26l0e, hj, h1, h2, h0', h0, hw2, h4, h5, hj1, hl1', h3, hw]

theorem rright_rows (e : Int) (h : List (List Int)) (ty : Nat) (hh : h.length ≤ 1000000) (hr : ∀ r ∈ h, r.length ≤ 1000000) : ∀ (k i ck : Nat), i + k = h.length → ∃ c, evL cfg (.loop f26l1) ⟨[(1, .pt ⟨1, 0, 0⟩ 2 0 0), (3, iv i)], [(⟨1, 0, 0⟩, .box ty [iv e, .t (gl h)])], ck⟩ =
    some (if ((h.drop i).all fun r => rowUp 0 r && !r.isEmpty) then (.exit 0, ⟨[(1, .pt ⟨1, 0, 0⟩ 2 0 0), (3, iv h.length), (24, bv false)], [(⟨1, 0, 0⟩, .box ty [iv e, .t (gl h)])], c⟩) else (.ret, ⟨[(2, bv false)], [], c⟩)) := by
  intro k
  induction k with
  | zero =>
    intro i ck hk
    obtain rfl : i = h.length := by omega
    refine ⟨ck + 1, ?_⟩
    rw [evL_loop]
    simp [f26l1e, gl]
  | succ k ih =>
    intro i ck hk
    have hi : i < h.length := by omega
    have hw : IntKind.i64.wrap ((i : Int) + 1) = (i : Int) + 1 := wrap_id (by omega) (by omega)
    have hri := hr _ (List.getElem_mem hi)
    have hall : ((h.drop i).all fun r => rowUp 0 r && !r.isEmpty) = ((rowUp 0 h[i] && !h[i].isEmpty) && ((h.drop (i + 1)).all fun r => rowUp 0 r && !r.isEmpty)) := by
      rw [List.drop_eq_getElem_cons hi]; rfl
    by_cases h2 : h[i].length = 0
    · have h2' : h[i] = [] := List.eq_nil_of_length_eq_zero h2
      refine ⟨ck + 4, ?_⟩
      have hb : (((h[i].length : Nat) : Int) == 0) = true := by simp [h2]
      rw [evL_loop, hall, if_neg (by simp [h2'])]
      simp [f26l1e, gl, hi, hb]
    · have h2' : ¬ h[i] = [] := fun e => h2 (by rw [e]; rfl)
      have h2b : (((h[i].length : Nat) : Int) == 0) = false := by simp; exact h2'
      obtain ⟨c0, hc0⟩ := rright_row h[i] (iv i) ty [iv e, .t (gl h)] hri h[i].length 0 0 (ck + 4) (by omega) (.inl ⟨rfl, rfl⟩)
      simp only [List.drop_zero, gl, il, iv, bv, Int.natCast_zero] at hc0
      by_cases h1 : rowUp 0 h[i] = true
      · rw [if_pos h1] at hc0
        obtain ⟨c, hc⟩ := ih (i + 1) (c0 + 1) (by omega)
        refine ⟨c, ?_⟩
        rw [evL_loop_n (s1 := ⟨[(1, .pt ⟨1, 0, 0⟩ 2 0 0), (3, iv ((i + 1 : Nat) : Int))], [(⟨1, 0, 0⟩, .box ty [iv e, .t (gl h)])], c0 + 1⟩), hc]
        · rw [hall]; simp [h1, h2']
        · simp [f26l1e, gl, hi, hc0, h2b, hw]
      · rw [if_neg h1] at hc0
        refine ⟨c0, ?_⟩
        rw [evL_loop, hall]
        simp [f26l1e, gl, hi, hc0, h1, h2b]

theorem rright_ret (e : Int) (h : List (List Int)) (hh : h.length ≤ 1000000) (hr : ∀ r ∈ h, r.length ≤ 1000000) : RetT cfg 26 [.ag [iv e, .t (gl h)]] (bv (right e h)) := by
  obtain ⟨c, hc⟩ := rright_rows e h 27 hh hr h.length 0 3 (by omega)
  refine RetT.of ?_
  rw [runL_pf (fn := f26) rfl rfl]
  simp only [List.drop_zero, gl, il, iv, bv, Int.natCast_zero] at hc
  by_cases h2 : e < 0
  · have h2' : ¬ 0 ≤ e := by omega
    simp [gl, right, h2, h2']
  · have h2' : 0 ≤ e := by omega
    by_cases h3 : 2147483647 < e
    · have h3' : ¬ e ≤ 2147483647 := by omega
      simp [gl, right, h2, h3, h3']
    · have h3' : e ≤ 2147483647 := by omega
      by_cases h4 : (8 : Int) < h.length
      · have h4' : ¬ h.length ≤ 8 := by omega
        simp [gl, right, h2, h3, h4, h4']
      · have h4' : h.length ≤ 8 := by omega
        by_cases h1 : (h.all fun r => rowUp 0 r && !r.isEmpty) = true
        · rw [if_pos h1] at hc
          simp [gl, hc, right, h1, h2, h2', h3, h3', h4, h4']
        · rw [if_neg h1] at hc
          simp [gl, hc, right, h1, h2, h2', h3, h3', h4, h4']

end Go.Proofs.Ythkehbdljckbdaa.Pv
