/- Plain facts of rows of nodes and of counts. -/
import Derived.Test.YtchjpboiebdabaaSpec13
set_option linter.unusedVariables false
set_option linter.unusedSimpArgs false
namespace Go.Proofs.Ytchjpboiebdabaa.Pv
open Go Go.Pev

theorem rowUp_sub : ∀ (r : List Int) (last : Int), 0 ≤ last → rowUp last r = true → r.Sublist (([1, 2, 3, 4] : List Int).filter fun n => decide (last < n))
  | [], last, _, _ => List.nil_sublist _
  | n :: r, last, h0, h => by
    simp only [rowUp, Bool.and_eq_true, decide_eq_true_eq] at h
    obtain ⟨⟨h1, h2⟩, h3⟩ := h
    have ih := rowUp_sub r n (by omega) h3
    have hn : n = 1 ∨ n = 2 ∨ n = 3 ∨ n = 4 := by omega
    have hl : last = 0 ∨ last = 1 ∨ last = 2 ∨ last = 3 := by omega
    rcases hn with rfl | rfl | rfl | rfl <;> rcases hl with rfl | rfl | rfl | rfl <;> first | omega | skip
    all_goals
      simp at ih ⊢
      first
        | exact ih
        | exact .cons _ (List.cons_sublist_cons.2 ih)
        | exact .cons _ (.cons _ (List.cons_sublist_cons.2 ih))
        | exact .cons _ (.cons _ (.cons _ (List.cons_sublist_cons.2 ih)))
        | (rw [ih]; exact List.singleton_sublist.2 (by simp))
        | simpa using ih
theorem rowUp_is {r : List Int} (h : rowUp 0 r = true) : r.Sublist [1, 2, 3, 4] := by
  have := rowUp_sub r 0 (by omega) h
  simpa using this
theorem rowUp_len {r : List Int} (h : rowUp 0 r = true) : r.length ≤ 4 := by
  have := (rowUp_is h).length_le
  simpa using this
theorem right_e {e : Int} {h : List (List Int)} (hr : right e h = true) : 0 ≤ e ∧ e ≤ 2147483647 ∧ h.length ≤ 8 := by
  simp only [right, Bool.and_eq_true, decide_eq_true_eq] at hr
  exact hr.1
theorem right_row' {e : Int} {h : List (List Int)} (hr : right e h = true) {r : List Int} (hm : r ∈ h) : rowUp 0 r = true ∧ r ≠ [] := by
  simp only [right, Bool.and_eq_true, List.all_eq_true] at hr
  have := hr.2 r hm
  refine ⟨this.1, fun e => ?_⟩
  rw [e] at this
  simp at this
theorem may_right {e : Int} {h : List (List Int)} {b : Int} (hm : may e h b = true) : right e h = true ∧ 1 ≤ b ∧ b ≤ 2147483647 := by
  simp only [may, Bool.and_eq_true, decide_eq_true_eq] at hm
  exact hm
theorem small_iff {h : List (List Int)} : small h = true ↔ h.length ≤ 30 ∧ ∀ r ∈ h, r.length ≤ 30 := by simp [small]

/-- The results of Hot and Cold, taken apart. -/
theorem hotR_tu (l : List Int) (e : Int) (h : List (List Int)) (b : Int) : ∃ x n ok, hotR l e h b = tu3 x n ok := by
  unfold hotR
  split <;> exact ⟨_, _, _, rfl⟩
theorem coldR_tu (l : List Int) (e : Int) (h : List (List Int)) (b : Int) : ∃ x n ok, coldR l e h b = tu3 x n ok := by
  unfold coldR
  split <;> exact ⟨_, _, _, rfl⟩
theorem tu3_inj {a b : Int} {c : Bool} {a' b' : Int} {c' : Bool} (h : tu3 a b c = tu3 a' b' c') : a = a' ∧ b = b' ∧ c = c' := by
  simpa [tu3] using h
theorem hotR_ok {l : List Int} {e : Int} {h : List (List Int)} {b x n : Int} (hR : hotR l e h b = tu3 x n true) : may e h b = true ∧ IsBest (hotC l h b) (cnt l) h.length x ∧ 0 ≤ x ∧ n = lightest h x := by
  unfold hotR at hR
  split at hR
  · rename_i hc
    obtain ⟨rfl, rfl, _⟩ := tu3_inj hR
    exact ⟨hc.1, bestTo_is _ _ _, hc.2, rfl⟩
  · exact absurd (tu3_inj hR).2.2 (by simp)
theorem hotR_of {l : List Int} {e : Int} {h : List (List Int)} {b x : Int} (hm : may e h b = true) (hb : IsBest (hotC l h b) (cnt l) h.length x) (hx : 0 ≤ x) : hotR l e h b = tu3 x (lightest h x) true := by
  unfold hotR
  rw [(bestTo_is (hotC l h b) (cnt l) h.length).eq hb, if_pos ⟨hm, hx⟩]
theorem hotR_no {l : List Int} {e : Int} {h : List (List Int)} {b x n : Int} (hR : hotR l e h b = tu3 x n false) : x = 0 ∧ n = 0 := by
  unfold hotR at hR
  split at hR
  · exact absurd (tu3_inj hR).2.2 (by simp)
  · obtain ⟨h1, h2, _⟩ := tu3_inj hR
    exact ⟨h1.symm, h2.symm⟩
theorem coldR_ok {l : List Int} {e : Int} {h : List (List Int)} {b x n : Int} (hR : coldR l e h b = tu3 x n true) : may e h b = true ∧ IsBest (coldC l h b) (ncnt l) h.length x ∧ 0 ≤ x ∧ n = lastOf (h.getD x.toNat []) := by
  unfold coldR at hR
  split at hR
  · rename_i hc
    obtain ⟨rfl, rfl, _⟩ := tu3_inj hR
    exact ⟨hc.1, bestTo_is _ _ _, hc.2, rfl⟩
  · exact absurd (tu3_inj hR).2.2 (by simp)

theorem cnt_pad (l : List Int) (n : Nat) (y : Int) : cnt (pad l n) y = cnt l y := by
  unfold cnt pad
  by_cases h0 : 0 ≤ y
  · by_cases h1 : y < l.length
    · have : y < ((l ++ List.replicate (n - l.length) 0).length : Int) := by simp; omega
      have hy : y.toNat < l.length := by omega
      rw [if_pos ⟨h0, this⟩, if_pos ⟨h0, h1⟩, List.getD_eq_getElem?_getD, List.getD_eq_getElem?_getD, List.getElem?_append, if_pos hy]
    · rw [if_neg (c := 0 ≤ y ∧ y < (l.length : Int)) (fun h => h1 h.2)]
      split
      · have hy : ¬ y.toNat < l.length := by omega
        rw [List.getD_eq_getElem?_getD, List.getElem?_append, if_neg hy, List.getElem?_replicate]
        split <;> rfl
      · rfl
  · rw [if_neg (fun h => h0 h.1), if_neg (fun h => h0 h.1)]
theorem cnt_set (l : List Int) (x : Nat) (v : Int) (hx : x < l.length) (y : Int) : cnt (l.set x v) y = if y = x then v else cnt l y := by
  unfold cnt
  rw [List.length_set]
  by_cases h : y = x
  · subst h
    rw [if_pos rfl, if_pos (by omega), List.getD_eq_getElem?_getD, List.getElem?_set]
    simp [hx]
  · rw [if_neg h]
    by_cases h0 : 0 ≤ y ∧ y < l.length
    · rw [if_pos h0, if_pos h0, List.getD_eq_getElem?_getD, List.getD_eq_getElem?_getD, List.getElem?_set, if_neg (by omega)]
    · rw [if_neg h0, if_neg h0]
theorem cnt_note {l : List Int} {x : Int} (h0 : 0 ≤ x) (h8 : x < 8) (hc : cnt l x < 2147483647) (hc0 : -9223372036854775808 ≤ cnt l x) (y : Int) : cnt (note l x) y = if y = x then cnt l x + 1 else cnt l y := by
  unfold note bump
  rw [if_neg (by omega)]
  have hx : x.toNat < (pad l (x.toNat + 1)).length := by simp [pad]; omega
  rw [cnt_set _ _ _ hx, cnt_pad]
  have hg : (pad l (x.toNat + 1)).getD x.toNat 0 = cnt l x := by
    have := cnt_pad l (x.toNat + 1) x
    unfold cnt at this
    rw [if_pos (by omega)] at this
    rw [this]; rfl
  rw [hg, wrap_id (by omega) (by omega)]
  have : (y = (x.toNat : Int)) = (y = x) := by
    have : (x.toNat : Int) = x := by omega
    rw [this]
  simp only [this]
theorem note_len {l : List Int} {x : Int} : (note l x).length ≤ l.length + 8 := by
  unfold note
  split
  · omega
  · simp [bump, pad]; omega
end Go.Proofs.Ytchjpboiebdabaa.Pv
