/- What the document's Same of the layer 2 tells. -/
import Derived.Test.YthkehbdljckbdaaBase
set_option linter.unusedVariables false
set_option linter.unusedSimpArgs false
namespace Go.Proofs.Ythkehbdljckbdaa.Pv
open Go Go.Pev
theorem same_loop (a b : List Int) (hl : a.length ≤ 1000000) (hab : a.length = b.length) : ∀ (k i ck : Nat), i + k = a.length → ∃ c, evL cfg (.loop f49l0) ⟨[(0, .t (il a)), (1, .t (il b)), (5, iv i)], [], ck⟩ =
    some (if a.drop i = b.drop i then (.exit 0, ⟨[(0, .t (il a)), (1, .t (il b)), (5, iv a.length), (14, bv false)], [], c⟩) else (.ret, ⟨[(4, bv false)], [], c⟩)) := by
  intro k
  induction k with
  | zero =>
    intro i ck h
    obtain rfl : i = a.length := by omega
    refine ⟨ck + 1, ?_⟩
    have h1 : a.drop a.length = b.drop a.length := by rw [List.drop_length, hab, List.drop_length]
    rw [evL_loop, if_pos h1]
    simp [f49l0e]
  | succ k ih =>
    intro i ck h
    have hi : i < a.length := by omega
    have hi' : i < b.length := by omega
    have h1 : a.drop i = b.drop i ↔ a[i] = b[i] ∧ a.drop (i + 1) = b.drop (i + 1) := by
      rw [List.drop_eq_getElem_cons hi, List.drop_eq_getElem_cons hi', List.cons.injEq]
    by_cases hx : a[i] = b[i]
    · obtain ⟨c, hc⟩ := ih (i + 1) (ck + 3) (by omega)
      refine ⟨c, ?_⟩
      rw [evL_loop_n (s1 := ⟨[(0, .t (il a)), (1, .t (il b)), (5, iv ((i + 1 : Nat) : Int))], [], ck + 3⟩), hc]
      · simp only [h1, hx, true_and]
      · have hw : IntKind.i64.wrap ((i : Int) + 1) = (i : Int) + 1 := wrap_id (by omega) (by omega)
        simp [f49l0e, hi, hi', hx, hw]
    · refine ⟨ck + 3, ?_⟩
      have hb : (a[i] != b[i]) = true := by simp [hx]
      rw [evL_loop, if_neg (fun h => hx (h1.1 h).1)]
      simp [f49l0e, hi, hi', hb]

theorem same_ret (a b : List Int) (hl : a.length ≤ 1000000) : RetT cfg 49 [.t (il a), .t (il b)] (bv (decide (a = b))) := by
  refine RetT.of ?_
  rw [runL_pf (fn := f49) rfl rfl]
  by_cases hab : a.length = b.length
  · obtain ⟨c, hc⟩ := same_loop a b hl hab a.length 0 3 (by omega)
    simp only [List.drop_zero] at hc
    by_cases hx : a = b
    · subst hx
      simp at hc
      simp [hc]
    · rw [if_neg hx] at hc
      simp [hab] at hc
      simp [hab, hx, hc]
  · have h1 : ¬ a = b := fun e => hab (by rw [e])
    have hb : ((a.length : Int) != (b.length : Int)) = true := by simp; omega
    simp [hb, h1]

end Go.Proofs.Ythkehbdljckbdaa.Pv
