/- WindowExact and WindowWrong, reckoned. -/
import Derived.Test.YtchjpboiebdabaaSWin5
import Derived.Test.YtchjpboiebdabaaArgsI
set_option linter.unusedVariables false
set_option linter.unusedSimpArgs false
namespace Go.Proofs.Ytchjpboiebdabaa.Pv
open Go Go.Pev

theorem u_win : structT PP 49 = some [3, 22] := by kernel_rfl
theorem a_win {k : Nat} {x : V} (h : ArgFit PP (k + 4) 49 x) : ∃ (low : Int) (l : List Int), x = .ag [iv low, .t (il l)] ∧ I64 low ∧ ∀ n ∈ l, I64 n := by
  obtain ⟨ts, rfl, h0⟩ := argFit_struct u_win h
  obtain ⟨e, r1, rfl, he, h1⟩ := fitsT_cons f_int h0
  obtain ⟨l, r2, rfl, hl, h2⟩ := fitsT_cons f_ints h1
  cases h2
  exact ⟨e, l, rfl, he, hl⟩

set_option maxHeartbeats 4000000 in
theorem wexact (low : Int) (l : List Int) (n : Int) (hw : I64 low) (hn : ∀ x ∈ l, I64 x) : ∃ hp c, runL cfg 9 [.ag [iv low, .t (il l)], iv n] [] 0 = some (bv true, hp, c) := by
  have ha := fun s k => callEv_tr (C := cfg) awake_ret rfl rfl rfl s k
  have haq := fun hp => callQ_tr (C := cfg) awake_ret rfl hp
  simp only [bv] at ha haq
  rw [runL_pf (fn := f9) rfl rfl]
  by_cases h1 : (100 : Int) < l.length
  · simp [h1, ha]
  · have hl : l.length ≤ 100 := by omega
    have h2 := fun s k => callEv_tr (C := cfg) (accept_ret low l n hw (by omega) hn) rfl rfl rfl s k
    have h3 := fun s k => callEv_tr (C := cfg) (raccept_ret low l n (by omega)) rfl rfl rfl s k
    have h4 := fun hp => callQ_tr (C := cfg) (wright_ret low l hw (by omega) (fun x hx => (hn x hx).2)) rfl hp
    have h5 := fun hp => callQ_tr (C := cfg) (rwright_ret low l (by omega)) rfl hp
    have hal : (acc low l n).2.1.length ≤ 1000000 := by
      unfold acc
      split
      · rename_i hc
        have h6 := ins_len n l
        have h7 : (over32 low (ins n l)).2.length ≤ (ins n l).length := by
          unfold over32
          split
          · simp
          · exact Nat.le_refl _
        have h8 : ∀ (l : List Int) (low : Int), (adv low l).2.length ≤ l.length := by
          intro l
          induction l with
          | nil => intro low; exact Nat.le_refl _
          | cons x r ih =>
            intro low
            simp only [adv]
            split
            · have := ih (low + 1); simp; omega
            · exact Nat.le_refl _
        have := h8 (over32 low (ins n l)).2 (over32 low (ins n l)).1
        simp only
        omega
      · simp only; omega
    generalize acc low l n = r at h2 h3 hal
    obtain ⟨lo, l2, ok⟩ := r
    have h6 := fun hp => callQ_tr (C := cfg) (wsame_ret lo lo l2 l2 hal) rfl hp
    simp only [accV, il, iv, bv] at h2 h3 h4 h5 h6
    simp at h6
    simp [h1, ha, haq, h2, h3, h4, h5, h6, over]

set_option maxHeartbeats 4000000 in
theorem wwrong (low : Int) (l : List Int) (n : Int) (hw : I64 low) (hn : ∀ x ∈ l, I64 x) : ∃ hp c, runL cfg 12 [.ag [iv low, .t (il l)], iv n] [] 0 = some (bv true, hp, c) := by
  have ha := fun s k => callEv_tr (C := cfg) awake_ret rfl rfl rfl s k
  have haq := fun hp => callQ_tr (C := cfg) awake_ret rfl hp
  simp only [bv] at ha haq
  rw [runL_pf (fn := f12) rfl rfl]
  by_cases h1 : (100 : Int) < l.length
  · simp [h1, ha]
  · have hl : l.length ≤ 100 := by omega
    have h2 := fun s k => callEv_tr (C := cfg) (accept_ret low l n hw (by omega) hn) rfl rfl rfl s k
    have h4 := fun s k => callEv_tr (C := cfg) (wright_ret low l hw (by omega) (fun x hx => (hn x hx).2)) rfl rfl rfl s k
    have h6 := fun s k => callEv_tr (C := cfg) (wsame_ret low low l l (by omega)) rfl rfl rfl s k
    have h6q := fun hp => callQ_tr (C := cfg) (wsame_ret low low l l (by omega)) rfl hp
    by_cases hr : wright low l = true
    · rw [hr] at h4
      by_cases h3 : low ≤ n
      · simp only [il, iv, bv] at h4
        simp [h1, ha, h4, h3]
      · have hacc : acc low l n = (low, l, false) := by unfold acc; rw [if_neg (by omega)]
        rw [hacc] at h2
        simp only [accV, il, iv, bv] at h2 h4 h6 h6q
        simp at h6 h6q
        simp [h1, ha, haq, h2, h4, h3, h6, h6q, over]
    · have hr' : wright low l = false := by simpa using hr
      have hacc : acc low l n = (low, l, false) := by unfold acc; rw [if_neg (by simp [hr'])]
      rw [hacc] at h2
      rw [hr'] at h4
      simp only [accV, il, iv, bv] at h2 h4 h6 h6q
      simp at h6 h6q
      simp [h1, ha, haq, h2, h4, h6, h6q, over]

theorem windowExact_ev (xs : List V) (h : ArgsFit PP 8 [49, 3] xs) : ∃ hp c, runL cfg 9 xs [] 0 = some (bv true, hp, c) := by
  obtain ⟨x1, r, rfl, h1, h⟩ := argsFit_cons h
  obtain ⟨x2, r, rfl, h2, h⟩ := argsFit_cons h
  cases argsFit_nil h
  obtain ⟨low, l, rfl, hw, hl⟩ := a_win h1
  obtain ⟨n, rfl, hn⟩ := a_int h2
  exact wexact low l n hw hl
theorem windowWrong_ev (xs : List V) (h : ArgsFit PP 8 [49, 3] xs) : ∃ hp c, runL cfg 12 xs [] 0 = some (bv true, hp, c) := by
  obtain ⟨x1, r, rfl, h1, h⟩ := argsFit_cons h
  obtain ⟨x2, r, rfl, h2, h⟩ := argsFit_cons h
  cases argsFit_nil h
  obtain ⟨low, l, rfl, hw, hl⟩ := a_win h1
  obtain ⟨n, rfl, hn⟩ := a_int h2
  exact wwrong low l n hw hl
end Go.Proofs.Ytchjpboiebdabaa.Pv
