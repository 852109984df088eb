/- LoadSums, reckoned. -/
import Derived.Test.YtchjpboiebdabaaPure1
import Derived.Test.YtchjpboiebdabaaArgs1
set_option linter.unusedVariables false
set_option linter.unusedSimpArgs false
namespace Go.Proofs.Ytchjpboiebdabaa.Pv
open Go Go.Pev

theorem row_sum {r : List Int} (h : rowUp 0 r = true) : (if r.contains 1 then 1 else 0) + (if r.contains 2 then 1 else 0) + (if r.contains 3 then 1 else 0) + (if r.contains 4 then 1 else 0) = r.length := by
  have hs := rowUp_is h
  simp only [List.sublist_cons_iff, List.sublist_nil] at hs
  rcases hs with (((h|⟨a,h,h1⟩)|⟨a,h,(h1|⟨b,h1,h2⟩)⟩)|⟨a,h,((h1|⟨b,h1,h2⟩)|⟨b,h1,(h2|⟨c,h2,h3⟩)⟩)⟩)|⟨a,h,(((h1|⟨b,h1,h2⟩)|⟨b,h1,(h2|⟨c,h2,h3⟩)⟩)|⟨b,h1,((h2|⟨c,h2,h3⟩)|⟨c,h2,(h3|⟨d,h3,h4⟩)⟩)⟩)⟩ <;> subst_vars <;> decide

theorem sum_all : ∀ (h : List (List Int)), (∀ r ∈ h, rowUp 0 r = true) → wt h 1 + wt h 2 + wt h 3 + wt h 4 = (h.map List.length).sum
  | [], _ => by simp [wt]
  | r :: h, hr => by
    have ih := sum_all h fun r hm => hr r (List.mem_cons_of_mem _ hm)
    have h1 := row_sum (hr r List.mem_cons_self)
    unfold wt at ih ⊢
    simp only [List.countP_cons, List.map_cons, List.sum_cons] at ih ⊢
    simp only [show (1 : Int) ≤ 1 ∧ (1 : Int) ≤ 4 by omega, show (1 : Int) ≤ 2 ∧ (2 : Int) ≤ 4 by omega, show (1 : Int) ≤ 3 ∧ (3 : Int) ≤ 4 by omega, show (1 : Int) ≤ 4 ∧ (4 : Int) ≤ 4 by omega, and_self, if_true] at ih ⊢
    omega

theorem lsums_in (e : Int) (h : List (List Int)) (nd : V) (ty : Nat) (hh : h.length ≤ 1000000) (hr : ∀ r ∈ h, r.length ≤ 1000000) (ck : Nat) : ∃ c, evL cfg (.loop f5l0) ⟨[(1, nd), (2, .pt ⟨2, 0, 0⟩ 2 0 0), (5, iv 0), (6, iv 0), (7, iv 1)], [(⟨2, 0, 0⟩, .box ty [iv e, .t (gl h)])], ck⟩ =
    some (.exit 0, ⟨[(1, nd), (2, .pt ⟨2, 0, 0⟩ 2 0 0), (5, iv ((wt h 1 + wt h 2 + wt h 3 + wt h 4 : Nat) : Int)), (6, iv 0), (7, iv 5), (21, bv false)], [(⟨2, 0, 0⟩, .box ty [iv e, .t (gl h)])], c⟩) := by
  have hstep : ∀ (n s : Int) (ck : Nat), 1 ≤ n → n ≤ 4 → 0 ≤ s → s ≤ 10000000 → evL cfg (.loop f5l0) ⟨[(1, nd), (2, .pt ⟨2, 0, 0⟩ 2 0 0), (5, iv s), (6, iv 0), (7, iv n)], [(⟨2, 0, 0⟩, .box ty [iv e, .t (gl h)])], ck⟩ = evL cfg (.loop f5l0) ⟨[(1, nd), (2, .pt ⟨2, 0, 0⟩ 2 0 0), (5, iv (s + wt h n)), (6, iv 0), (7, iv (n + 1))], [(⟨2, 0, 0⟩, .box ty [iv e, .t (gl h)])], ck + 3⟩ := by
    intro n s ck h1 h2 h3 h4
    have hn5 : n < 5 := by omega
    have hw : IntKind.i64.wrap (n + 1) = n + 1 := wrap_id (by omega) (by omega)
    have := wt_le h n
    have hw2 : IntKind.i64.wrap (s + (wt h n : Int)) = s + wt h n := wrap_id (by omega) (by omega)
    have hc := fun s k => callEv_tr (C := cfg) (weight_ret e h n hh hr) rfl rfl rfl s k
    simp only [il, iv, bv, gl] at hc
    refine evL_loop_n ?_
    simp [f5l0e, gl, hn5, hc, hw, hw2]
  have w1 := wt_le h 1
  have w2 := wt_le h 2
  have w3 := wt_le h 3
  have w4 := wt_le h 4
  refine ⟨ck + 13, ?_⟩
  have e1 := hstep 1 0 ck (by omega) (by omega) (by omega) (by omega)
  have e2 := hstep 2 (0 + (wt h 1 : Int)) (ck + 3) (by omega) (by omega) (by omega) (by omega)
  have e3 := hstep 3 (0 + (wt h 1 : Int) + wt h 2) (ck + 6) (by omega) (by omega) (by omega) (by omega)
  have e4 := hstep 4 (0 + (wt h 1 : Int) + wt h 2 + wt h 3) (ck + 9) (by omega) (by omega) (by omega) (by omega)
  refine e1.trans (e2.trans (e3.trans (e4.trans ?_)))
  rw [show (0 : Int) + (wt h 1 : Int) + (wt h 2 : Int) + (wt h 3 : Int) + (wt h 4 : Int) = ((wt h 1 + wt h 2 + wt h 3 + wt h 4 : Nat) : Int) by omega, evL_loop]
  simp [f5l0e]

def lens (h : List (List Int)) : Nat := (h.map List.length).sum
theorem lens_cons (r : List Int) (h : List (List Int)) : lens (r :: h) = r.length + lens h := by simp [lens]
theorem lens_le : ∀ (h : List (List Int)), (∀ r ∈ h, r.length ≤ 30) → lens h ≤ 30 * h.length
  | [], _ => by simp [lens]
  | r :: h, hr => by
    have := lens_le h fun r hm => hr r (List.mem_cons_of_mem _ hm)
    have := hr r List.mem_cons_self
    rw [lens_cons, List.length_cons]
    omega

theorem lsums_many (h : List (List Int)) (nd p s : V) (hp : HP) (hh : h.length ≤ 30) (hr : ∀ r ∈ h, r.length ≤ 30) : ∀ (k i n ck : Nat), i + k = h.length → n ≤ 30 * i → ∃ c, evL cfg (.loop f5l1) ⟨[(1, nd), (2, p), (5, s), (6, iv n), (30, .t (gl h)), (31, iv h.length), (32, iv i)], hp, ck⟩ =
    some (.exit 2, ⟨[(1, nd), (2, p), (5, s), (6, iv ((n + lens (h.drop i) : Nat) : Int)), (30, .t (gl h)), (31, iv h.length), (32, iv h.length), (33, bv false)], hp, c⟩) := by
  intro k
  induction k with
  | zero =>
    intro i n ck hk hn
    obtain rfl : i = h.length := by omega
    refine ⟨ck + 1, ?_⟩
    rw [evL_loop]
    simp [f5l1e, lens]
  | succ k ih =>
    intro i n ck hk hn
    have hi : i < h.length := by omega
    have hri := hr _ (List.getElem_mem hi)
    have hw : IntKind.i64.wrap ((i : Int) + 1) = (i : Int) + 1 := wrap_id (by omega) (by omega)
    have hw2 : IntKind.i64.wrap ((n : Int) + (h[i].length : Int)) = (n : Int) + h[i].length := wrap_id (by omega) (by omega)
    obtain ⟨c, hc⟩ := ih (i + 1) (n + h[i].length) (ck + 4) (by omega) (by omega)
    refine ⟨c, ?_⟩
    have hd : lens (h.drop i) = h[i].length + lens (h.drop (i + 1)) := by rw [List.drop_eq_getElem_cons hi, lens_cons]
    rw [evL_loop_n (s1 := ⟨[(1, nd), (2, p), (5, s), (6, iv ((n + h[i].length : Nat) : Int)), (30, .t (gl h)), (31, iv h.length), (32, iv ((i + 1 : Nat) : Int))], hp, ck + 4⟩), hc, hd, Nat.add_assoc]
    simp [f5l1e, gl, hi, hw, hw2]

set_option maxHeartbeats 4000000 in
theorem lsums (e : Int) (h : List (List Int)) (nd : Int) : ∃ hp c, runL cfg 5 [.ag [iv e, .t (gl h)], iv nd] [] 0 = some (bv true, hp, c) := by
  have ha := fun s k => callEv_tr (C := cfg) awake_ret rfl rfl rfl s k
  have haq := fun hp => callQ_tr (C := cfg) awake_ret rfl hp
  have hs := fun s k => callEv_tr (C := cfg) (small_ret h) rfl rfl rfl s k
  simp only [gl, bv] at ha haq hs
  rw [runL_pf (fn := f5) rfl rfl]
  by_cases h2 : small h = true
  · obtain ⟨hh, hr⟩ := small_iff.1 h2
    have hh2 : h.length ≤ 1000000 := by omega
    have hr2 : ∀ r ∈ h, r.length ≤ 1000000 := fun r hx => by have := hr r hx; omega
    have hrg := fun s k => callEv_tr (C := cfg) (rright_ret e h hh2 hr2) rfl rfl rfl s k
    rw [h2] at hs
    simp only [gl, bv, iv] at hrg
    by_cases h3 : right e h = true
    · rw [h3] at hrg
      obtain ⟨c1, hl1⟩ := lsums_in e h (iv nd) 25 hh2 hr2 4
      obtain ⟨c2, hl2⟩ := lsums_many h (iv nd) (.pt ⟨2, 0, 0⟩ 2 0 0) (iv ((wt h 1 + wt h 2 + wt h 3 + wt h 4 : Nat) : Int)) [(⟨2, 0, 0⟩, .box 25 [iv e, .t (gl h)])] hh hr h.length 0 0 (c1 + 1) (by omega) (by omega)
      have hsum := sum_all h fun r hm => (right_row' h3 hm).1
      have hw := fun s k => callEv_tr (C := cfg) (weight_ret e h nd hh2 hr2) rfl rfl rfl s k
      rw [show wt h 1 + wt h 2 + wt h 3 + wt h 4 = lens h from hsum] at hl1 hl2
      rw [List.drop_zero, Nat.zero_add] at hl2
      simp only [gl, bv, iv, Int.natCast_zero] at hl1 hl2 hw
      by_cases h4 : 1 ≤ nd
      · by_cases h5 : nd ≤ 4
        · simp [ha, haq, hs, hrg, hl1, hl2, gl, h4, h5]
        · have hw0 : wt h nd = 0 := by unfold wt; rw [if_neg (fun h => h5 h.2)]
          simp [ha, haq, hs, hrg, hl1, hl2, gl, h4, h5, hw, hw0]
      · have hw0 : wt h nd = 0 := by unfold wt; rw [if_neg (fun h => h4 h.1)]
        simp [ha, haq, hs, hrg, hl1, hl2, gl, h4, hw, hw0]
    · have h3' : right e h = false := by simpa using h3
      rw [h3'] at hrg
      simp [ha, hs, hrg, gl]
  · have h2' : small h = false := by simpa using h2
    simp [ha, hs, h2', gl]

theorem loadSums_ev (xs : List V) (h : ArgsFit PP 8 [25, 3] xs) : ∃ hp c, runL cfg 5 xs [] 0 = some (bv true, hp, c) := by
  obtain ⟨x2, r, rfl, h2, h⟩ := argsFit_cons h
  obtain ⟨x3, r, rfl, h3, h⟩ := argsFit_cons h
  cases argsFit_nil h
  obtain ⟨e, m, rfl, he, hm⟩ := a_map h2
  obtain ⟨b, rfl, hb⟩ := a_int h3
  exact lsums e m b
end Go.Proofs.Ytchjpboiebdabaa.Pv
