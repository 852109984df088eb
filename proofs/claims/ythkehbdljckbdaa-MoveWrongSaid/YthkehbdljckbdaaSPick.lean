/- What place.Pick tells. -/
import Derived.Test.YthkehbdljckbdaaSPlace
set_option linter.unusedVariables false
set_option linter.unusedSimpArgs false
namespace Go.Proofs.Ythkehbdljckbdaa.Pv
open Go Go.Pev

def ppick (e : Int) (h : List (List Int)) (x key : Int) : Int × Bool := if right e h = true ∧ 0 ≤ x ∧ x < h.length ∧ 0 ≤ key then ((h.getD x.toNat []).getD (key.toNat % (h.getD x.toNat []).length) 0, true) else (0, false)

theorem ppick_ret (e : Int) (h : List (List Int)) (x key : Int) (hh : h.length ≤ 1000000) (hr : ∀ r ∈ h, r.length ≤ 100000) : RetT cfg 25 [.ag [iv e, .t (gl h)], iv x, iv key] (.tu [iv (ppick e h x key).1, bv (ppick e h x key).2]) := by
  have hc := fun s k => callEv_tr (C := cfg) (pright_ret e h hh (fun r hm => by have := hr r hm; omega)) rfl rfl rfl s k
  simp only [gl, iv, bv] at hc
  unfold RetT
  rw [runL_pf (fn := f25) rfl rfl]
  by_cases h1 : right e h = true
  · by_cases h2 : 0 ≤ x
    · by_cases h3 : x < h.length
      · by_cases h4 : 0 ≤ key
        · obtain ⟨y, rfl⟩ : ∃ y : Nat, x = y := ⟨x.toNat, by omega⟩
          obtain ⟨ky, rfl⟩ : ∃ y : Nat, key = y := ⟨key.toNat, by omega⟩
          have hy : y < h.length := by omega
          have hne := (right_row' h1 (List.getElem_mem hy)).2
          have hpos : 0 < h[y].length := List.length_pos_iff.2 hne
          have hlt : ky % h[y].length < h[y].length := Nat.mod_lt _ hpos
          have htm : ((ky : Int)).tmod (h[y].length : Int) = ((ky % h[y].length : Nat) : Int) := by
            rw [Int.tmod_eq_emod_of_nonneg (by omega)]; rfl
          simp only [ppick, h1, h2, h3, h4, and_self, if_true, Int.toNat_natCast, (by simp [List.getD_eq_getElem?_getD, hy] : h.getD y [] = h[y])]
          generalize ky % h[y].length = m at *
          have d1 : decide ((y : Int) < 0) = false := decide_eq_false (by omega)
          have d2 : decide ((ky : Int) < 0) = false := decide_eq_false (by omega)
          have d3 : decide (h.length ≤ y) = false := decide_eq_false (by omega)
          have d4 : ((h[y].length : Int) == 0) = false := by simp; exact hne
          simp [gl, hc, h1, d1, d2, d3, hy, hne, htm, hlt, List.getElem?_eq_getElem]
          refine ⟨_, _, ⟨rfl, rfl⟩, ?_⟩
          simp [resOf, resOfs, resOf1, List.getD_eq_getElem?_getD, hy, hlt]
        · have h4' : key < 0 := by omega
          have d1 : decide (x < 0) = false := decide_eq_false (by omega)
          have d2 : decide ((h.length : Int) ≤ x) = false := decide_eq_false (by omega)
          simp [gl, ppick, hc, h1, h2, h3, h4, h4', d1, d2]
          refine ⟨_, _, ⟨rfl, rfl⟩, ?_⟩
          simp [resOf, resOfs, resOf1]
      · have h3' : (h.length : Int) ≤ x := by omega
        have d1 : decide (x < 0) = false := decide_eq_false (by omega)
        simp [gl, ppick, hc, h1, h2, h3, h3', d1]
        refine ⟨_, _, ⟨rfl, rfl⟩, ?_⟩
        simp [resOf, resOfs, resOf1]
    · have h2' : x < 0 := by omega
      simp [gl, ppick, hc, h1, h2, h2']
      refine ⟨_, _, ⟨rfl, rfl⟩, ?_⟩
      simp [resOf, resOfs, resOf1]
  · simp [gl, ppick, hc, h1]
    refine ⟨_, _, ⟨rfl, rfl⟩, ?_⟩
    simp [resOf, resOfs, resOf1]
end Go.Proofs.Ythkehbdljckbdaa.Pv
