/- What the functions of the layers 2, 17 and 21 tell: Note, Index, Contains, Weight, Small. -/
import Derived.Test.YtchjpboiebdabaaSpec2
set_option linter.unusedVariables false
set_option linter.unusedSimpArgs false
namespace Go.Proofs.Ytchjpboiebdabaa.Pv
open Go Go.Pev

theorem clone_ret (xs : List (List T)) (h : ∀ c ∈ xs, c.length = 1) (hl : xs.length ≤ 1000000) : RetO cfg 36 [.t (.l xs)] 3 1 xs := by
  refine ⟨⟨0, 0, 0⟩, [(⟨0, 0, 0⟩, .row 3 1 xs false)], 9, ?_, by simp [HP.get]⟩
  rw [runL_ex (p := cloneP 3 1 8) rfl]
  unfold cloneP
  have h1 : (xs.all fun c => c.length == 1) = true := List.all_eq_true.2 fun c hc => by simpa using h c hc
  have h2 : xs.length * 8 ≤ 140737488355328 := by omega
  simp only [h1, h2]
  simp

theorem cl_one (l : List Int) : ∀ c ∈ cl l, c.length = 1 := by
  intro c hc
  obtain ⟨n, _, rfl⟩ := List.mem_map.1 hc
  rfl

theorem note_reto (l : List Int) (x : Int) (hl : l.length ≤ 1000000) : RetO cfg 17 [.t (il l), iv x] 3 1 (cl (note l x)) := by
  have hcl := fun s k => callEv_tro (C := cfg) (clone_ret (cl l) (cl_one l) (by simp [cl]; omega)) rfl rfl rfl s k
  have hct := fun s k => callEv_tr (C := cfg) (count_ret l x) rfl rfl rfl s k
  simp only [cl, il, iv] at hcl hct
  by_cases hc : x < 0 ∨ 8 ≤ x ∨ 2147483647 ≤ cnt l x
  · have hn : note l x = l := by unfold note; rw [if_pos hc]
    rw [hn]
    refine ⟨⟨7, 1, 1⟩, [(⟨7, 1, 1⟩, .row 3 1 (cl l) false)], 4, ?_, by simp [HP.get]⟩
    · rw [runL_pf (fn := f17) rfl rfl]
      by_cases h0 : x < 0
      · simp [hcl, h0, cl]
      · by_cases h8 : 8 ≤ x
        · simp [hcl, h0, h8, cl]
        · have h9 : 2147483647 ≤ cnt l x := by omega
          simp [hcl, hct, h0, h8, h9, cl]
  · have h0 : ¬ x < 0 := by omega
    have h8 : ¬ 8 ≤ x := by omega
    have h9 : ¬ 2147483647 ≤ cnt l x := by omega
    obtain ⟨c', o', ck', hlp⟩ := note_loop x (by omega) (by omega) (x.toNat + 1 - l.length) l 1 1 3 [(19, bv false)] (.inr rfl) hl rfl
    have hpl : x.toNat < (pad l (x.toNat + 1)).length := by simp [pad]; omega
    have hx : x < ((pad l (x.toNat + 1)).length : Int) := by omega
    have hx0 : 0 ≤ x := by omega
    have hn : note l x = bump (pad l (x.toNat + 1)) x.toNat := by unfold note; rw [if_neg hc]
    rw [hn]
    refine ⟨⟨7, c', o'⟩, [(⟨7, c', o'⟩, .row 3 1 (cl (bump (pad l (x.toNat + 1)) x.toNat)) false)], ck' + 2, ?_, by simp [HP.get]⟩
    · rw [runL_pf (fn := f17) rfl rfl]
      simp only [show l ++ List.replicate (x.toNat + 1 - l.length) 0 = pad l (x.toNat + 1) from rfl] at hlp
      generalize pad l (x.toNat + 1) = m at hlp hpl hx ⊢
      simp [cl] at hlp
      simp [hcl, hct, h0, h8, h9, hlp, hx, hx0, hpl, cl, bump, treesC, treesOf, treeOf, keysOf, freezeAll, over, List.map_set]

theorem note_ret (l : List Int) (x : Int) (hl : l.length ≤ 1000000) : RetT cfg 17 [.t (il l), iv x] (.t (il (note l x))) := (note_reto l x hl).tree
end Go.Proofs.Ytchjpboiebdabaa.Pv
