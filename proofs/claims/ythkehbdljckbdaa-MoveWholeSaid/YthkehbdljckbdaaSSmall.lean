/- What the document's Small of the layer 3 tells. -/
import Derived.Test.YthkehbdljckbdaaBase
set_option linter.unusedVariables false
set_option linter.unusedSimpArgs false
namespace Go.Proofs.Ythkehbdljckbdaa.Pv
open Go Go.Pev
def small (h : List (List Int)) : Bool := decide (h.length ≤ 30 ∧ ∀ r ∈ h, r.length ≤ 30)

theorem small_loop (h : List (List Int)) : ∀ (k i ck : Nat), i + k = h.length → ∃ c, evL cfg (.loop f16l0) ⟨[(0, .t (gl h)), (3, iv i)], [], ck⟩ = some (.ret, ⟨[(2, bv false)], [], c⟩) ∧ (¬ ∀ r ∈ h, r.length ≤ 30) ∨
    ∃ j, evL cfg (.loop f16l0) ⟨[(0, .t (gl h)), (3, iv i)], [], ck⟩ = some (.exit 0, ⟨[(0, .t (gl h)), (3, iv j), (11, bv false)], [], c⟩) ∧ (h.length ≤ 30 → ∀ r ∈ h.drop i, r.length ≤ 30) := by
  intro k
  induction k with
  | zero =>
    intro i ck hk
    obtain rfl : i = h.length := by omega
    refine ⟨ck + 1, .inr ⟨h.length, ?_, by simp⟩⟩
    rw [evL_loop]
    simp [f16l0e, gl]
  | succ k ih =>
    intro i ck hk
    have hi : i < h.length := by omega
    by_cases h30 : i < 30
    · have hi30 : (i : Int) < 30 := by omega
      by_cases hl : h[i].length ≤ 30
      · have hl' : ¬ (30 : Int) < h[i].length := by omega
        have hw : IntKind.i64.wrap ((i : Int) + 1) = (i : Int) + 1 := wrap_id (by omega) (by omega)
        have hstep : evL cfg (.loop f16l0) ⟨[(0, .t (gl h)), (3, iv i)], [], ck⟩ = evL cfg (.loop f16l0) ⟨[(0, .t (gl h)), (3, iv ((i + 1 : Nat) : Int))], [], ck + 3⟩ := by
          refine evL_loop_n ?_
          simp [f16l0e, gl, hi, hi30, hl', hw]
        obtain ⟨c, h1 | ⟨j, h1, h2⟩⟩ := ih (i + 1) (ck + 3) (by omega)
        · exact ⟨c, .inl ⟨by rw [hstep]; exact h1.1, h1.2⟩⟩
        · refine ⟨c, .inr ⟨j, by rw [hstep]; exact h1, fun h0 r hr => ?_⟩⟩
          rw [List.drop_eq_getElem_cons hi] at hr
          rcases List.mem_cons.1 hr with rfl | hr
          · exact hl
          · exact h2 h0 r hr
      · have hl' : (30 : Int) < h[i].length := by omega
        refine ⟨ck + 3, .inl ⟨?_, fun hall => hl (hall _ (List.getElem_mem hi))⟩⟩
        rw [evL_loop]
        simp [f16l0e, gl, hi, hi30, hl']
    · have hi30 : ¬ (i : Int) < 30 := by omega
      refine ⟨ck + 1, .inr ⟨i, ?_, fun h0 => by omega⟩⟩
      rw [evL_loop]
      simp [f16l0e, gl, hi, hi30]

theorem small_ret (h : List (List Int)) : RetT cfg 16 [.t (gl h)] (bv (small h)) := by
  refine RetT.of ?_
  rw [runL_pf (fn := f16) rfl rfl]
  obtain ⟨c, h1 | ⟨j, h1, h2⟩⟩ := small_loop h h.length 0 2 (by omega)
  · have : small h = false := by
      unfold small
      simp only [decide_eq_false_iff_not]
      exact fun hh => h1.2 hh.2
    have h3 := h1.1
    simp [gl] at h3
    simp [gl, h3, this]
  · by_cases hl : h.length ≤ 30
    · have : small h = true := by
        unfold small
        simp only [decide_eq_true_eq]
        exact ⟨hl, by simpa using h2 hl⟩
      have hl' : (h.length : Int) ≤ 30 := by omega
      simp [gl] at h1
      simp [gl, h1, this, hl']
    · have : small h = false := by
        unfold small
        simp only [decide_eq_false_iff_not]
        exact fun hh => hl hh.1
      have hl' : ¬ (h.length : Int) ≤ 30 := by omega
      simp [gl] at h1
      simp [gl, h1, this, hl']

theorem small_iff {h : List (List Int)} : small h = true ↔ h.length ≤ 30 ∧ ∀ r ∈ h, r.length ≤ 30 := by simp [small]

end Go.Proofs.Ythkehbdljckbdaa.Pv
