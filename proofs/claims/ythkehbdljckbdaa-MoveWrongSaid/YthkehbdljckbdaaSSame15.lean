/- What the document's Same of the layer 15 tells. -/
import Derived.Test.YthkehbdljckbdaaSSame
set_option linter.unusedVariables false
set_option linter.unusedSimpArgs false
namespace Go.Proofs.Ythkehbdljckbdaa.Pv
open Go Go.Pev
theorem same15_loop (a b : List (List Int)) (hl : a.length ≤ 1000000) (hr : ∀ r ∈ a, r.length ≤ 1000000) (hab : a.length = b.length) : ∀ (k i ck : Nat), i + k = a.length → ∃ c, evL cfg (.loop f24l0) ⟨[(0, .t (gl a)), (1, .t (gl b)), (5, iv i)], [], ck⟩ =
    some (if a.drop i = b.drop i then (.exit 0, ⟨[(0, .t (gl a)), (1, .t (gl b)), (5, iv a.length), (14, bv false)], [], c⟩) else (.ret, ⟨[(4, bv false)], [], c⟩)) := by
  intro k
  induction k with
  | zero =>
    intro i ck h
    obtain rfl : i = a.length := by omega
    refine ⟨ck + 1, ?_⟩
    rw [evL_loop]
    simp [f24l0e, gl, hab]
  | succ k ih =>
    intro i ck h
    have hi : i < a.length := by omega
    have hib : i < b.length := by omega
    have hw : IntKind.i64.wrap ((i : Int) + 1) = (i : Int) + 1 := wrap_id (by omega) (by omega)
    have hs := fun hp => callQ_tr (C := cfg) (same_ret a[i] b[i] (hr _ (List.getElem_mem hi))) rfl hp
    simp only [il, bv] at hs
    have hd : (a.drop i = b.drop i) = (a[i] = b[i] ∧ a.drop (i + 1) = b.drop (i + 1)) := by
      rw [List.drop_eq_getElem_cons hi, List.drop_eq_getElem_cons hib]; simp only [List.cons.injEq]
    simp only [hd]
    by_cases hx : a[i] = b[i]
    · obtain ⟨c, hc⟩ := ih (i + 1) (ck + 3) (by omega)
      refine ⟨c, ?_⟩
      rw [evL_loop_n (s1 := ⟨[(0, .t (gl a)), (1, .t (gl b)), (5, iv ((i + 1 : Nat) : Int))], [], ck + 3⟩), hc]
      · simp [hx]
      · rw [hx] at hs
        simp [f24l0e, gl, hi, hib, hs, hx, hw]
    · refine ⟨ck + 3, ?_⟩
      rw [evL_loop]
      simp [f24l0e, gl, hi, hib, hs, hx]

theorem same15_ret (a b : List (List Int)) (hl : a.length ≤ 1000000) (hr : ∀ r ∈ a, r.length ≤ 1000000) : RetT cfg 24 [.t (gl a), .t (gl b)] (bv (decide (a = b))) := by
  refine RetT.of ?_
  rw [runL_pf (fn := f24) rfl rfl]
  by_cases hab : a.length = b.length
  · obtain ⟨c, hc⟩ := same15_loop a b hl hr hab a.length 0 3 (by omega)
    simp only [List.drop_zero, gl] at hc
    by_cases hx : a = b
    · subst hx
      simp at hc
      simp [gl, hc]
    · rw [if_neg hx] at hc
      simp [hab] at hc
      simp [gl, hab, hx, hc]
  · have h1 : ¬ a = b := fun e => hab (by rw [e])
    have hb : ((a.length : Int) != (b.length : Int)) = true := by simp; omega
    simp [gl, h1, hb]
end Go.Proofs.Ythkehbdljckbdaa.Pv
