/- What the document's Has tells. -/
import Derived.Test.YthkehbdljckbdaaBase
set_option linter.unusedVariables false
set_option linter.unusedSimpArgs false
namespace Go.Proofs.Ythkehbdljckbdaa.Pv
open Go Go.Pev
theorem has_loop (l : List Int) (x : Int) (hl : l.length ≤ 1000000) : ∀ (k i ck : Nat), i + k = l.length → ∃ c, evL cfg (.loop f27l0) ⟨[(0, .t (il l)), (1, iv x), (5, iv i)], [], ck⟩ =
    some (if (l.drop i).contains x then (.ret, ⟨[(4, bv true)], [], c⟩) else (.exit 0, ⟨[(0, .t (il l)), (1, iv x), (5, iv l.length), (9, bv false)], [], c⟩)) := by
  intro k
  induction k with
  | zero =>
    intro i ck h
    obtain rfl : i = l.length := by omega
    refine ⟨ck + 1, ?_⟩
    rw [evL_loop]
    simp [f27l0e]
  | succ k ih =>
    intro i ck h
    have hi : i < l.length := by omega
    by_cases hx : l[i] = x
    · refine ⟨ck + 3, ?_⟩
      rw [evL_loop, contains_at hi hx]
      simp [f27l0e, hi, hx]
    · obtain ⟨c, hc⟩ := ih (i + 1) (ck + 3) (by omega)
      refine ⟨c, ?_⟩
      rw [evL_loop_n (s1 := ⟨[(0, .t (il l)), (1, iv x), (5, iv ((i + 1 : Nat) : Int))], [], ck + 3⟩), hc, contains_not hi hx]
      have hb : (l[i] == x) = false := by simp [hx]
      have hw : IntKind.i64.wrap ((i : Int) + 1) = (i : Int) + 1 := wrap_id (by omega) (by omega)
      simp [f27l0e, hi, hb, hw]

theorem has_ret (l : List Int) (x : Int) (hl : l.length ≤ 1000000) : RetT cfg 27 [.t (il l), iv x] (bv (l.contains x)) := by
  obtain ⟨c, hc⟩ := has_loop l x hl l.length 0 2 (by omega)
  refine RetT.of ?_
  rw [runL_pf (fn := f27) rfl rfl]
  simp at hc
  by_cases hx : x ∈ l <;> simp [hx] at hc <;> simp [hc, hx]

end Go.Proofs.Ythkehbdljckbdaa.Pv
