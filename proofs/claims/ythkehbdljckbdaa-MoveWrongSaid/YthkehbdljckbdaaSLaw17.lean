/- What the functions that all laws of the layer 17 use tell. -/
import Derived.Test.YthkehbdljckbdaaPMap
import Derived.Test.YthkehbdljckbdaaSTurn
import Derived.Test.YthkehbdljckbdaaSSame15
import Derived.Test.YthkehbdljckbdaaSSmall
import Derived.Test.YthkehbdljckbdaaSPick
set_option linter.unusedVariables false
set_option linter.unusedSimpArgs false
namespace Go.Proofs.Ythkehbdljckbdaa.Pv
open Go Go.Pev

def mapV (e : Int) (h : List (List Int)) : V := .ag [iv e, .t (gl h)]
theorem add_ret (e : Int) (h : List (List Int)) (x n : Int) (hh : h.length ≤ 100000) (hr : ∀ r ∈ h, r.length ≤ 100000) : RetT cfg 18 [mapV e h, iv x, iv n] (.tu [mapV (rturn e h x n true).1 (rturn e h x n true).2.1, iv (rturn e h x n true).2.2]) := by
  rw [← padd_turn]; exact padd_ret e h x n (by omega) hr
theorem retire_ret (e : Int) (h : List (List Int)) (x n : Int) (hh : h.length ≤ 100000) (hr : ∀ r ∈ h, r.length ≤ 100000) : RetT cfg 19 [mapV e h, iv x, iv n] (.tu [mapV (rturn e h x n false).1 (rturn e h x n false).2.1, iv (rturn e h x n false).2.2]) := by
  rw [← pret_turn]; exact pret_ret e h x n (by omega) hr

theorem same17_ret (a b : Int) (g h : List (List Int)) (hl : g.length ≤ 1000000) (hr : ∀ r ∈ g, r.length ≤ 1000000) : RetT cfg 21 [mapV a g, mapV b h] (bv (a == b && decide (g = h))) := by
  have hs := fun s k => callEv_tr (C := cfg) (same15_ret g h hl hr) rfl rfl rfl s k
  simp only [gl, bv] at hs
  refine RetT.of ?_
  rw [runL_pf (fn := f21) rfl rfl]
  by_cases hab : a = b
  · simp [mapV, gl, hab, hs]
  · have hb : (a == b) = false := by simpa using hab
    simp [mapV, gl, hb]

theorem awake17_ret : RetT cfg 17 [] (bv true) := by
  have h1 := fun s k => callEv_tr (C := cfg) (add_ret 0 [[1]] 0 2 (by decide) (by decide)) rfl rfl rfl s k
  have h2 := fun s k => callEv_tr (C := cfg) (retire_ret 1 [[1, 2]] 0 1 (by decide) (by decide)) rfl rfl rfl s k
  have h3 := fun s k => callEv_tr (C := cfg) (retire_ret 2 [[2]] 0 2 (by decide) (by decide)) rfl rfl rfl s k
  have h4 := fun s k => callEv_tr (C := cfg) (holds_ret 2 [[2]] 0 2 (by decide)) rfl rfl rfl s k
  have h5 := fun s k => callEv_tr (C := cfg) (holds_ret 2 [[2]] 0 1 (by decide)) rfl rfl rfl s k
  have h6 := fun s k => callEv_tr (C := cfg) (pright_ret 2 [[2]] (by decide) (by decide)) rfl rfl rfl s k
  have e1 : rturn 0 [[1]] 0 2 true = (1, [[1, 2]], 0) := by decide
  have e2 : rturn 1 [[1, 2]] 0 1 false = (2, [[2]], 0) := by decide
  have e3 : rturn 2 [[2]] 0 2 false = (2, [[2]], 7) := by decide
  have e4 : holds [[2]] 0 2 = true := by decide
  have e5 : holds [[2]] 0 1 = false := by decide
  have e6 : right 2 [[2]] = true := by decide
  rw [e1] at h1
  rw [e2] at h2
  rw [e3] at h3
  rw [e4] at h4
  rw [e5] at h5
  rw [e6] at h6
  simp only [mapV, gl, il, iv, bv, List.map_cons, List.map_nil] at h1 h2 h3 h4 h5 h6
  refine RetT.of ?_
  rw [runL_pf (fn := f17) rfl rfl]
  simp [h1, h2, h3, h4, h5, h6, rowsOf, keysOfs, treesC, treesOf, treeOf, freezeAll, buildV, over]
end Go.Proofs.Ythkehbdljckbdaa.Pv
