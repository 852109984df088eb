/- Windows, plainly. -/
import Derived.Test.YtccnadleegcobaaSWin1
set_option linter.unusedVariables false
set_option linter.unusedSimpArgs false
namespace Go.Proofs.Ytccnadleegcobaa.Pv
open Go Go.Pev
theorem adv_is : ∀ (l : List Int) (low : Int), l.Pairwise (· < ·) → (∀ x ∈ l, low ≤ x) → low ≤ (adv low l).1 ∧ (adv low l).2.Pairwise (· < ·) ∧ (∀ x ∈ (adv low l).2, (adv low l).1 < x) ∧ (∀ x ∈ (adv low l).2, x ∈ l) ∧ (∀ x, x < (adv low l).1 → x < low ∨ x ∈ l) ∧ (∀ x ∈ l, x < (adv low l).1 ∨ x ∈ (adv low l).2) ∧ (adv low l).2.length ≤ l.length
  | [], low, _, _ => by simp [adv]
  | y :: r, low, hp, hm => by
    have hp' := List.pairwise_cons.1 hp
    by_cases h : y = low
    · subst h
      obtain ⟨a1, a2, a3, a4, a5, a6, a7⟩ := adv_is r (y + 1) hp'.2 (fun x hx => by have := hp'.1 x hx; omega)
      simp only [adv, if_true]
      refine ⟨by omega, a2, a3, fun x hx => List.mem_cons_of_mem _ (a4 x hx), fun x hx => ?_, fun x hx => ?_, by simp; omega⟩
      · rcases a5 x hx with h | h
        · by_cases e : x = y
          · exact .inr (by rw [e]; exact List.mem_cons_self)
          · exact .inl (by omega)
        · exact .inr (List.mem_cons_of_mem _ h)
      · rcases List.mem_cons.1 hx with rfl | hx
        · exact .inl (by omega)
        · exact a6 x hx
    · simp only [adv, h, if_false]
      have hy := hm y List.mem_cons_self
      exact ⟨Int.le_refl _, hp, fun x hx => by
        rcases List.mem_cons.1 hx with rfl | hx
        · omega
        · have := hp'.1 x hx; omega, fun x hx => hx, fun x hx => .inl hx, fun x hx => .inr hx, Nat.le_refl _⟩

/-- A right window, all of it up to a bound. -/
def WIs (B : Int) (low : Int) (l : List Int) : Prop := 0 ≤ low ∧ low ≤ B + 1 ∧ l.Pairwise (· < ·) ∧ (∀ x ∈ l, low ≤ x ∧ x ≤ B) ∧ l.length ≤ 32
theorem WIs.right {B low : Int} {l : List Int} (h : WIs B low l) (hB : B < 2147483647) : wright low l = true := by
  obtain ⟨h1, h2, h3, h4, h5⟩ := h
  simp only [wright, Bool.and_eq_true, decide_eq_true_eq]
  exact ⟨⟨h1, by omega, h5⟩, upM_of l (low - 1) h3 fun x hx => by have := h4 x hx; omega⟩
/-- One more is taken just if it did not come: and then it came. -/
theorem acc_is {B low n : Int} {l : List Int} (h : WIs B low l) (hB : B < 2147483647) (h0 : 0 ≤ n) (hn : n ≤ B) :
    (acc low l n).2.2 = decide (¬ (n < low ∨ n ∈ l)) ∧ WIs B (acc low l n).1 (acc low l n).2.1 ∧ (∀ x, x < low ∨ x ∈ l → x < (acc low l n).1 ∨ x ∈ (acc low l n).2.1) ∧ (n < (acc low l n).1 ∨ n ∈ (acc low l n).2.1) ∧
    ((∀ x ∈ l, low < x) → ∀ x ∈ (acc low l n).2.1, (acc low l n).1 < x) ∧ (l.length < 32 → ∀ x, x < (acc low l n).1 ∨ x ∈ (acc low l n).2.1 → x < low ∨ x ∈ l ∨ x = n) := by
  have hr := h.right hB
  obtain ⟨h1, h2, h3, h4, h5⟩ := h
  unfold acc
  by_cases hc : low ≤ n ∧ ¬ n ∈ l
  · rw [if_pos ⟨hr, hc.1, by omega, hc.2⟩]
    have hip := ins_pair h3 hc.2
    have him : ∀ x ∈ ins n l, low ≤ x ∧ x ≤ B := fun x hx => by
      rcases mem_ins.1 hx with hx | rfl
      · exact h4 x hx
      · omega
    have hil := ins_len n l
    have hov : ∃ L, (over32 low (ins n l)).2 = L ∧ L.Pairwise (· < ·) ∧ (∀ x ∈ L, (over32 low (ins n l)).1 ≤ x ∧ x ≤ B) ∧ L.length ≤ 32 ∧ low ≤ (over32 low (ins n l)).1 ∧ (over32 low (ins n l)).1 ≤ B + 1 ∧ (∀ x ∈ ins n l, x < (over32 low (ins n l)).1 ∨ x ∈ L) ∧ (l.length < 32 → (over32 low (ins n l)).1 = low ∧ L = ins n l) := by
      refine ⟨_, rfl, ?_⟩
      unfold over32
      by_cases h32 : 32 < (ins n l).length
      · rw [if_pos h32]
        cases hI : ins n l with
        | nil => rw [hI] at h32; simp at h32
        | cons y r =>
          rw [hI] at hip him hil h32
          have hp' := List.pairwise_cons.1 hip
          have hy := him y List.mem_cons_self
          simp only [List.getD_cons_zero, List.tail_cons]
          refine ⟨hp'.2, fun x hx => ?_, by simp at hil; omega, by omega, by omega, fun x hx => ?_, fun hl => by simp at hil h32; omega⟩
          · have := hp'.1 x hx
            have := him x (List.mem_cons_of_mem _ hx)
            omega
          · rcases List.mem_cons.1 hx with rfl | hx
            · exact .inl (by omega)
            · exact .inr hx
      · rw [if_neg h32]
        exact ⟨hip, him, by simp only; omega, Int.le_refl _, by simp only; omega, fun x hx => .inr hx, fun _ => ⟨rfl, rfl⟩⟩
    obtain ⟨L, hL, o1, o2, o3, o4, o5, o6, o7⟩ := hov
    rw [hL]
    generalize (over32 low (ins n l)).1 = lo at o2 o4 o5 o6 o7
    obtain ⟨a1, a2, a3, a4, a5, a6, a7⟩ := adv_is L lo o1 (fun x hx => (o2 x hx).1)
    refine ⟨by simp; omega, ⟨by simp only; omega, ?_, a2, fun x hx => ⟨by have := a3 x hx; simp only; omega, (o2 x (a4 x hx)).2⟩, by simp only; omega⟩, fun x hx => ?_, ?_, fun _ => a3, fun hl x hx => ?_⟩
    · simp only
      by_cases hlt : (adv lo L).1 ≤ lo
      · omega
      · have := a5 ((adv lo L).1 - 1) (by omega)
        rcases this with h | h
        · omega
        · have := o2 _ h; omega
    · rcases hx with hx | hx
      · exact .inl (by simp only; omega)
      · rcases o6 x (mem_ins.2 (.inl hx)) with h | h
        · exact .inl (by simp only; omega)
        · exact a6 x h
    · rcases o6 n (mem_ins.2 (.inr rfl)) with h | h
      · exact .inl (by simp only; omega)
      · exact a6 n h
    · obtain ⟨e1, e2⟩ := o7 hl
      have hin : ∀ x, x ∈ L → x ∈ l ∨ x = n := fun x hx => by rw [e2] at hx; exact mem_ins.1 hx
      rcases hx with hx | hx
      · rcases a5 x hx with h | h
        · exact .inl (by omega)
        · exact .inr (hin x h)
      · exact .inr (hin x (a4 x hx))
  · rw [if_neg (fun h => hc ⟨h.2.1, h.2.2.2⟩)]
    have hd : n < low ∨ n ∈ l := by
      by_cases hn : n ∈ l
      · exact .inr hn
      · refine .inl (Classical.byContradiction fun h => hc ⟨by omega, hn⟩)
    exact ⟨by simp [hd], ⟨h1, h2, h3, h4, h5⟩, fun x hx => hx, hd, fun h => h, fun _ x hx => hx.imp id .inl⟩

end Go.Proofs.Ytccnadleegcobaa.Pv
