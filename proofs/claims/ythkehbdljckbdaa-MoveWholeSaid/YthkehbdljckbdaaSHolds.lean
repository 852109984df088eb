/- What Holds tells. -/
import Derived.Test.YthkehbdljckbdaaSContains
set_option linter.unusedVariables false
set_option linter.unusedSimpArgs false
namespace Go.Proofs.Ythkehbdljckbdaa.Pv
open Go Go.Pev
def holds (h : List (List Int)) (x n : Int) : Bool := decide (0 ≤ x ∧ x < h.length) && (h.getD x.toNat []).contains n

theorem holds_ret (e : Int) (h : List (List Int)) (x n : Int) (hr : ∀ r ∈ h, r.length ≤ 1000000) : RetT cfg 23 [.ag [iv e, .t (gl h)], iv x, iv n] (bv (holds h x n)) := by
  refine RetT.of ?_
  rw [runL_pf (fn := f23) rfl rfl]
  by_cases h0 : 0 ≤ x
  · by_cases h1 : x < h.length
    · have hx : x.toNat < h.length := by omega
      have hc := fun s k => callEv_tr (C := cfg) (contains_ret h[x.toNat] n (hr _ (List.getElem_mem hx))) rfl rfl rfl s k
      simp only [il, iv, bv] at hc
      simp [gl, holds, h0, h1, hx, hc]
    · simp [gl, holds, h0, h1]
  · simp [gl, holds, h0]

end Go.Proofs.Ythkehbdljckbdaa.Pv
