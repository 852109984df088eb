/- LoadMay, reckoned. -/
import Derived.Test.YtldbikinnoiacaaSLoad
import Derived.Test.YtldbikinnoiacaaArgsM
set_option linter.unusedVariables false
set_option linter.unusedSimpArgs false
set_option maxRecDepth 100000
namespace Go.Proofs.Ytldbikinnoiacaa.Pv
open Go Go.Pev

theorem add_ret (e : Int) (h : List (List Int)) (x n : Int) (hh : h.length ≤ 100000) (hr : ∀ r ∈ h, r.length ≤ 100000) : RetT cfg 8 [.ag [iv e, .t (gl h)], iv x, iv n] (.tu [.ag [iv (rturn e h x n true).1, .t (gl (rturn e h x n true).2.1)], iv (rturn e h x n true).2.2]) := by
  rw [← padd_turn]; exact padd_ret e h x n (by omega) hr
theorem retire_ret (e : Int) (h : List (List Int)) (x n : Int) (hh : h.length ≤ 100000) (hr : ∀ r ∈ h, r.length ≤ 100000) : RetT cfg 10 [.ag [iv e, .t (gl h)], iv x, iv n] (.tu [.ag [iv (rturn e h x n false).1, .t (gl (rturn e h x n false).2.1)], iv (rturn e h x n false).2.2]) := by
  rw [← pret_turn]; exact pret_ret e h x n (by omega) hr

theorem wt_small (h : List (List Int)) (m : Int) : wt h m ≤ h.length := by
  unfold wt; split
  · exact List.countP_le_length
  · omega
theorem wt_set {h : List (List Int)} {y : Nat} (hy : y < h.length) (r : List Int) {n : Int} (hn : 1 ≤ n ∧ n ≤ 4) : wt (h.set y r) n + (if h[y].contains n then 1 else 0) = wt h n + (if r.contains n then 1 else 0) := by
  have key : ∀ (h : List (List Int)) (y : Nat) (hy : y < h.length), (h.set y r).countP (fun r => r.contains n) + (if h[y].contains n then 1 else 0) = h.countP (fun r => r.contains n) + (if r.contains n then 1 else 0) := by
    intro h
    induction h with
    | nil => intro y hy; simp at hy
    | cons a h ih =>
      intro y hy
      cases y with
      | zero => simp only [List.set_cons_zero, List.countP_cons, List.getElem_cons_zero]; omega
      | succ y =>
        have := ih y (by simpa using hy)
        simp only [List.set_cons_succ, List.countP_cons, List.getElem_cons_succ]; omega
  unfold wt
  rw [if_pos hn, if_pos hn]
  exact key h y hy

theorem hot_may {l : List Int} {e : Int} {h : List (List Int)} {b x n : Int} (hR : hotR l e h b = tu3 x n true) (he : e ≤ 1073741824) : ∃ (y : Nat) (hy : y < h.length), x = y ∧ may e h y n = true ∧ h[y].contains n = false := by
  obtain ⟨hm, hb, hx, rfl⟩ := hotR_ok hR
  obtain ⟨hr, _, _⟩ := lmay_right hm
  rcases hb with ⟨rfl, _⟩ | ⟨k, rfl, hk, hc, _⟩
  · omega
  · refine ⟨k, hk, rfl, ?_, ?_⟩
    · simp only [hotC, Bool.and_eq_true, decide_eq_true_eq] at hc
      rcases lightest_is h k with ⟨h0, _⟩ | ⟨h1, h4, _, _⟩
      · exact absurd h0 hc.2
      · simp only [may, hr, Bool.true_and, Bool.and_eq_true, decide_eq_true_eq]; omega
    · simp only [hotC, Bool.and_eq_true, decide_eq_true_eq] at hc
      rcases lightest_is h k with ⟨h0, _⟩ | ⟨h1, h4, hn, _⟩
      · exact absurd h0 hc.2
      · rw [holds_at hk] at hn; exact hn
theorem cold_may {l : List Int} {e : Int} {h : List (List Int)} {b x n : Int} (hR : coldR l e h b = tu3 x n true) (he : e ≤ 1073741824) : ∃ (y : Nat) (hy : y < h.length), x = y ∧ may e h y n = true ∧ h[y].contains n = true ∧ h[y].length ≠ 1 := by
  obtain ⟨hm, hb, hx, rfl⟩ := coldR_ok hR
  obtain ⟨hr, _, _⟩ := lmay_right hm
  rcases hb with ⟨rfl, _⟩ | ⟨k, rfl, hk, hc, _⟩
  · omega
  · have hgd : h.getD k [] = h[k] := by simp [List.getD_eq_getElem?_getD, List.getElem?_eq_getElem hk]
    simp only [coldC, Bool.and_eq_true, decide_eq_true_eq, hgd] at hc
    have hin := row_in (right_row' hr (List.getElem_mem hk)).1
    have hlm : lastOf h[k] ∈ h[k] := by
      unfold lastOf
      have : h[k].length - 1 < h[k].length := by omega
      rw [List.getD_eq_getElem?_getD, List.getElem?_eq_getElem this]
      exact List.getElem_mem this
    have h14 := subs_14 _ hin _ hlm
    simp only [Int.toNat_natCast, hgd]
    refine ⟨k, hk, rfl, ?_, by simpa using hlm, by omega⟩
    simp only [may, hr, Bool.true_and, Bool.and_eq_true, decide_eq_true_eq]
    simp at h14; omega

set_option maxHeartbeats 8000000 in
theorem lmay_ (l : List Int) (e : Int) (h : List (List Int)) (b : Int) : ∃ hp c, runL cfg 3 [.t (il l), .ag [iv e, .t (gl h)], iv b] [] 0 = some (bv true, hp, c) := by
  have ha := fun s k => callEv_tr (C := cfg) awake_ret rfl rfl rfl s k
  have hs := fun s k => callEv_tr (C := cfg) (small_ret h) rfl rfl rfl s k
  simp only [gl, bv] at ha hs
  rw [runL_pf (fn := f3) rfl rfl]
  by_cases h60 : (60 : Int) < l.length
  · simp [h60, ha, gl]
  · by_cases h2 : small h = true
    · by_cases hbig : 1073741824 < e
      · rw [h2] at hs
        simp [h60, ha, hs, gl, hbig]
      · obtain ⟨hh, hr⟩ := small_iff.1 h2
        obtain ⟨x, n, ok, hH⟩ := hotR_tu l e h b
        obtain ⟨y, m, is, hC⟩ := coldR_tu l e h b
        have h1 := fun s k => callEv_tr (C := cfg) (hot_ret l e h b (by omega) (fun r hx => by have := hr r hx; omega)) rfl rfl rfl s k
        have h3 := fun s k => callEv_tr (C := cfg) (cold_ret l e h b (by omega) (fun r hx => by have := hr r hx; omega)) rfl rfl rfl s k
        rw [h2] at hs
        simp only [hH, hC, tu3, gl, bv, il, iv] at h1 h3
        -- what Add does
        have hadd : ok = true → ∃ g, (∀ s k, callEv cfg (runL cfg) 8 [.ag [iv e, .t (gl h)], iv x, iv n] s k = some (.tu [.ag [iv (e + 1), .t (gl g)], iv 0], s.hp, s.ck)) ∧ (∀ hp, callQ (runL cfg) 9 [.ag [iv (e + 1), .t (gl g)], iv n] hp = some (iv ((wt h n : Int) + 1))) ∧ (∀ hp, callQ (runL cfg) 9 [.ag [iv e, .t (gl h)], iv n] hp = some (iv (wt h n))) := by
          rintro rfl
          obtain ⟨y, hy, rfl, q1, q2⟩ := hot_may hH (by omega)
          obtain ⟨p1, _, _, p4, p5, _, _⟩ := may_p q1
          have hin := row_in (right_row' p1 (List.getElem_mem hy)).1
          have a1 := fun s k => callEv_tr (C := cfg) (add_ret e h y n (by omega) (fun r hx => by have := hr r hx; omega)) rfl rfl rfl s k
          rw [rturn_ok q1 hy (by rw [q2]; rfl) (by simp)] at a1
          have hsub := nw_in _ hin n (n14 p4 p5) true
          have a2 := fun hp => callQ_tr (C := cfg) (weight_ret (e + 1) (h.set y (nw h[y] n true)) n (by simp; omega) (fun r hx => by
            rcases List.mem_or_eq_of_mem_set hx with hx | rfl
            · have := hr r hx; omega
            · have := rowUp_len (subs_up _ hsub); omega)) rfl hp
          have a3 := fun hp => callQ_tr (C := cfg) (weight_ret e h n (by omega) (fun r hx => by have := hr r hx; omega)) rfl hp
          have hw := wt_set hy (nw h[y] n true) ⟨p4, p5⟩
          rw [nw_has hin p4 p5, q2] at hw
          simp at hw
          rw [hw] at a2
          exact ⟨_, a1, by simpa using a2, a3⟩
        have hret : is = true → ∃ g, (∀ s k, callEv cfg (runL cfg) 10 [.ag [iv e, .t (gl h)], iv y, iv m] s k = some (.tu [.ag [iv (e + 1), .t (gl g)], iv 0], s.hp, s.ck)) ∧ (∀ hp, callQ (runL cfg) 9 [.ag [iv (e + 1), .t (gl g)], iv m] hp = some (iv ((wt h m : Int) - 1))) ∧ (∀ hp, callQ (runL cfg) 9 [.ag [iv e, .t (gl h)], iv m] hp = some (iv (wt h m))) := by
          rintro rfl
          obtain ⟨y, hy, rfl, q1, q2, q3⟩ := cold_may hC (by omega)
          obtain ⟨p1, _, _, p4, p5, _, _⟩ := may_p q1
          have hin := row_in (right_row' p1 (List.getElem_mem hy)).1
          have a1 := fun s k => callEv_tr (C := cfg) (retire_ret e h y m (by omega) (fun r hx => by have := hr r hx; omega)) rfl rfl rfl s k
          rw [rturn_ok q1 hy (by rw [q2]; rfl) (fun _ => q3)] at a1
          have hsub := nw_in _ hin m (n14 p4 p5) false
          have a2 := fun hp => callQ_tr (C := cfg) (weight_ret (e + 1) (h.set y (nw h[y] m false)) m (by simp; omega) (fun r hx => by
            rcases List.mem_or_eq_of_mem_set hx with hx | rfl
            · have := hr r hx; omega
            · have := rowUp_len (subs_up _ hsub); omega)) rfl hp
          have a3 := fun hp => callQ_tr (C := cfg) (weight_ret e h m (by omega) (fun r hx => by have := hr r hx; omega)) rfl hp
          have hw := wt_set hy (nw h[y] m false) ⟨p4, p5⟩
          rw [nw_has hin p4 p5, q2] at hw
          simp at hw
          have hw' : ((wt (h.set y (nw h[y] m false)) m : Nat) : Int) = (wt h m : Int) - 1 := by omega
          simp only [hw'] at a2
          exact ⟨_, a1, a2, a3⟩
        have w1 : IntKind.i64.wrap ((wt h n : Int) + 1) = (wt h n : Int) + 1 := wrap_id (by omega) (by have := wt_small h n; omega)
        have w2 : IntKind.i64.wrap ((wt h m : Int) - 1) = (wt h m : Int) - 1 := wrap_id (by omega) (by have := wt_small h m; omega)
        cases ok with
        | true =>
          obtain ⟨g, a1, a2, a3⟩ := hadd rfl
          cases is with
          | true =>
            obtain ⟨g', b1, b2, b3⟩ := hret rfl
            simp only [gl, il, iv] at a1 a2 a3 b1 b2 b3
            simp [h60, ha, hs, gl, hbig, h1, h3, a1, a2, a3, b1, b2, b3, w1, w2, over]
          | false =>
            simp only [gl, il, iv] at a1 a2 a3
            simp [h60, ha, hs, gl, hbig, h1, h3, a1, a2, a3, w1, over]
        | false =>
          cases is with
          | true =>
            obtain ⟨g', b1, b2, b3⟩ := hret rfl
            simp only [gl, il, iv] at b1 b2 b3
            simp [h60, ha, hs, gl, hbig, h1, h3, b1, b2, b3, w2, over]
          | false => simp [h60, ha, hs, gl, hbig, h1, h3, over]
    · have h2' : small h = false := by simpa using h2
      simp [h60, ha, hs, h2', gl]

theorem loadMay_ev (xs : List V) (h : ArgsFit PP 8 [22, 25, 3] xs) : ∃ hp c, runL cfg 3 xs [] 0 = some (bv true, hp, c) := by
  obtain ⟨x1, r, rfl, h1, h⟩ := argsFit_cons h
  obtain ⟨x2, r, rfl, h2, h⟩ := argsFit_cons h
  obtain ⟨x3, r, rfl, h3, h⟩ := argsFit_cons h
  cases argsFit_nil h
  obtain ⟨l, rfl, _⟩ := a_ints h1
  obtain ⟨e, g, rfl, _, _⟩ := a_map h2
  obtain ⟨b, rfl, _⟩ := a_int h3
  exact lmay_ l e g b
end Go.Proofs.Ytldbikinnoiacaa.Pv
