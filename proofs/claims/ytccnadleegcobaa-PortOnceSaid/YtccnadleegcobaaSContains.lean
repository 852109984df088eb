/- The library's Index and Contains, of a row of numbers. -/
import Derived.Test.YtccnadleegcobaaBase
set_option linter.unusedVariables false
set_option linter.unusedSimpArgs false
namespace Go.Proofs.Ytccnadleegcobaa.Pv
open Go Go.Pev
theorem index_loop (l : List Int) (x : Int) (hl : l.length ≤ 1000000) : ∀ (k i ck : Nat), i + k = l.length → ∃ c j, 0 ≤ j ∧ evL cfg (.loop f29l0) ⟨[(0, .t (il l)), (1, iv x), (7, iv l.length), (8, iv i)], [], ck⟩ =
    some (if (l.drop i).contains x then (.ret, ⟨[(4, iv j)], [], c⟩) else (.exit 0, ⟨[(0, .t (il l)), (1, iv x), (7, iv l.length), (8, iv l.length), (9, bv false)], [], c⟩)) := by
  intro k
  induction k with
  | zero =>
    intro i ck h
    obtain rfl : i = l.length := by omega
    refine ⟨ck + 1, 0, Int.le_refl _, ?_⟩
    rw [evL_loop]
    simp [f29l0e]
  | succ k ih =>
    intro i ck h
    have hi : i < l.length := by omega
    by_cases hx : l[i] = x
    · refine ⟨ck + 4, i, by omega, ?_⟩
      rw [evL_loop, contains_at hi hx]
      simp [f29l0e, hi, hx]
    · obtain ⟨c, j, hj, hc⟩ := ih (i + 1) (ck + 4) (by omega)
      refine ⟨c, j, hj, ?_⟩
      rw [evL_loop_n (s1 := ⟨[(0, .t (il l)), (1, iv x), (7, iv l.length), (8, iv ((i + 1 : Nat) : Int))], [], ck + 4⟩), hc, contains_not hi hx]
      have hb : (x == l[i]) = false := by simp; exact fun e => hx e.symm
      have hw : IntKind.i64.wrap ((i : Int) + 1) = (i : Int) + 1 := wrap_id (by omega) (by omega)
      simp [f29l0e, hi, hb, hw]

theorem index_ret (l : List Int) (x : Int) (hl : l.length ≤ 1000000) : ∃ j : Int, (0 ≤ j ↔ x ∈ l) ∧ RetT cfg 29 [.t (il l), iv x] (iv j) := by
  obtain ⟨c, j, hj, hc⟩ := index_loop l x hl l.length 0 2 (by omega)
  simp at hc
  by_cases hx : x ∈ l
  · refine ⟨j, by simp [hx, hj], RetT.of ?_⟩
    rw [runL_pf (fn := f29) rfl rfl]
    simp [hx] at hc
    simp [hc]
  · refine ⟨-1, by simp [hx], RetT.of ?_⟩
    rw [runL_pf (fn := f29) rfl rfl]
    simp [hx] at hc
    simp [hc]

theorem contains_ret (l : List Int) (x : Int) (hl : l.length ≤ 1000000) : RetT cfg 25 [.t (il l), iv x] (bv (l.contains x)) := by
  obtain ⟨j, hj, hr⟩ := index_ret l x hl
  have hc := fun s k => callEv_tr (C := cfg) hr rfl rfl rfl s k
  simp only [il, iv] at hc
  refine RetT.of ?_
  rw [runL_pf (fn := f25) rfl rfl]
  by_cases hx : x ∈ l
  · have h0 : 0 ≤ j := hj.2 hx
    simp [hc, hx, h0]
  · have h0 : ¬ 0 ≤ j := fun h => hx (hj.1 h)
    simp [hc, hx, h0]

end Go.Proofs.Ytccnadleegcobaa.Pv
