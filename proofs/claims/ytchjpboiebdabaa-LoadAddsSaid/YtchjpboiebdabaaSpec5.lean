/- What the functions of the layers 2, 17 and 21 tell: the document's Weight, Small, awake. -/
import Derived.Test.YtchjpboiebdabaaSpec4
set_option linter.unusedVariables false
set_option linter.unusedSimpArgs false
namespace Go.Proofs.Ytchjpboiebdabaa.Pv
open Go Go.Pev

set_option maxHeartbeats 1000000 in
theorem rweight_loop (e : Int) (h : List (List Int)) (node : Int) (hh : h.length ≤ 1000000) (hr : ∀ r ∈ h, r.length ≤ 1000000) : ∀ (k i n ck : Nat), i + k = h.length → n ≤ i → ∃ c, evL cfg (.loop f22l0) ⟨[(1, iv node), (2, .pt ⟨2, 0, 0⟩ 2 0 0), (5, iv n), (6, iv i)], [(⟨2, 0, 0⟩, .box 33 [iv e, .t (gl h)])], ck⟩ =
    some (.exit 0, ⟨[(1, iv node), (2, .pt ⟨2, 0, 0⟩ 2 0 0), (5, iv ((n + wt (h.drop i) node : Nat) : Int)), (6, iv h.length), (11, bv false)], [(⟨2, 0, 0⟩, .box 33 [iv e, .t (gl h)])], c⟩) := by
  intro k
  induction k with
  | zero =>
    intro i n ck hk hn
    obtain rfl : i = h.length := by omega
    refine ⟨ck + 1, ?_⟩
    rw [evL_loop]
    simp [f22l0e, gl, wt]
  | succ k ih =>
    intro i n ck hk hn
    have hi : i < h.length := by omega
    have hw : IntKind.i64.wrap ((i : Int) + 1) = (i : Int) + 1 := wrap_id (by omega) (by omega)
    have hw2 : IntKind.i64.wrap ((n : Int) + 1) = (n : Int) + 1 := wrap_id (by omega) (by omega)
    have hc := fun s k => callEv_tr (C := cfg) (has_ret h[i] node (hr _ (List.getElem_mem hi))) rfl rfl rfl s k
    simp only [il, iv, bv] at hc
    by_cases hn1 : 1 ≤ node ∧ node ≤ 4
    · have hn2 : 0 < node := by omega
      have hn3 : node < 5 := by omega
      by_cases hx : node ∈ h[i]
      · obtain ⟨c, hcc⟩ := ih (i + 1) (n + 1) (ck + 4) (by omega) (by omega)
        refine ⟨c, ?_⟩
        have h1 : wt (h.drop i) node = wt (h.drop (i + 1)) node + 1 := by
          simp only [wt, hn1, and_self, if_true]
          rw [countP_at _ hi]
          simp [hx]
        rw [evL_loop_n (s1 := ⟨[(1, iv node), (2, .pt ⟨2, 0, 0⟩ 2 0 0), (5, iv ((n + 1 : Nat) : Int)), (6, iv ((i + 1 : Nat) : Int))], [(⟨2, 0, 0⟩, .box 33 [iv e, .t (gl h)])], ck + 4⟩), hcc]
        · rw [h1]
          have : n + 1 + wt (h.drop (i + 1)) node = n + (wt (h.drop (i + 1)) node + 1) := by omega
          rw [this]
        · simp [f22l0e, gl, hi, hw, hw2, hc, hn2, hn3, hx]
      · obtain ⟨c, hcc⟩ := ih (i + 1) n (ck + 3) (by omega) (by omega)
        refine ⟨c, ?_⟩
        have h1 : wt (h.drop i) node = wt (h.drop (i + 1)) node := by
          simp only [wt, hn1, and_self, if_true]
          rw [countP_at _ hi]
          simp [hx]
        rw [evL_loop_n (s1 := ⟨[(1, iv node), (2, .pt ⟨2, 0, 0⟩ 2 0 0), (5, iv n), (6, iv ((i + 1 : Nat) : Int))], [(⟨2, 0, 0⟩, .box 33 [iv e, .t (gl h)])], ck + 3⟩), hcc, h1]
        simp [f22l0e, gl, hi, hw, hw2, hc, hn2, hn3, hx]
    · obtain ⟨c, hcc⟩ := ih (i + 1) n (ck + 3) (by omega) (by omega)
      refine ⟨c, ?_⟩
      have h1 : ∀ g, wt g node = 0 := by intro g; simp only [wt, hn1, if_false]
      rw [evL_loop_n (s1 := ⟨[(1, iv node), (2, .pt ⟨2, 0, 0⟩ 2 0 0), (5, iv n), (6, iv ((i + 1 : Nat) : Int))], [(⟨2, 0, 0⟩, .box 33 [iv e, .t (gl h)])], ck + 3⟩), hcc, h1, h1]
      by_cases ha : 0 < node
      · have hb : ¬ node < 5 := fun h => hn1 ⟨by omega, by omega⟩
        simp [f22l0e, gl, hi, hw, hw2, hc, ha, hb]
      · simp [f22l0e, gl, hi, hw, hw2, hc, ha]

theorem rweight_ret (e : Int) (h : List (List Int)) (node : Int) (hh : h.length ≤ 1000000) (hr : ∀ r ∈ h, r.length ≤ 1000000) : RetT cfg 22 [.ag [iv e, .t (gl h)], iv node] (iv (wt h node)) := by
  obtain ⟨c, hc⟩ := rweight_loop e h node hh hr h.length 0 0 3 (by omega) (by omega)
  refine RetT.of ?_
  rw [runL_pf (fn := f22) rfl rfl]
  simp [gl] at hc
  simp [gl, hc]

def small (h : List (List Int)) : Bool := decide (h.length ≤ 30 ∧ ∀ r ∈ h, r.length ≤ 30)

theorem small_loop (h : List (List Int)) : ∀ (k i ck : Nat), i + k = h.length → ∃ c, evL cfg (.loop f15l0) ⟨[(0, .t (gl h)), (3, iv i)], [], ck⟩ = some (.ret, ⟨[(2, bv false)], [], c⟩) ∧ (¬ ∀ r ∈ h, r.length ≤ 30) ∨
    ∃ j, evL cfg (.loop f15l0) ⟨[(0, .t (gl h)), (3, iv i)], [], ck⟩ = some (.exit 0, ⟨[(0, .t (gl h)), (3, iv j), (11, bv false)], [], c⟩) ∧ (h.length ≤ 30 → ∀ r ∈ h.drop i, r.length ≤ 30) := by
  intro k
  induction k with
  | zero =>
    intro i ck hk
    obtain rfl : i = h.length := by omega
    refine ⟨ck + 1, .inr ⟨h.length, ?_, by simp⟩⟩
    rw [evL_loop]
    simp [f15l0e, gl]
  | succ k ih =>
    intro i ck hk
    have hi : i < h.length := by omega
    by_cases h30 : i < 30
    · have hi30 : (i : Int) < 30 := by omega
      by_cases hl : h[i].length ≤ 30
      · have hl' : ¬ (30 : Int) < h[i].length := by omega
        have hw : IntKind.i64.wrap ((i : Int) + 1) = (i : Int) + 1 := wrap_id (by omega) (by omega)
        have hstep : evL cfg (.loop f15l0) ⟨[(0, .t (gl h)), (3, iv i)], [], ck⟩ = evL cfg (.loop f15l0) ⟨[(0, .t (gl h)), (3, iv ((i + 1 : Nat) : Int))], [], ck + 3⟩ := by
          refine evL_loop_n ?_
          simp [f15l0e, gl, hi, hi30, hl', hw]
        obtain ⟨c, h1 | ⟨j, h1, h2⟩⟩ := ih (i + 1) (ck + 3) (by omega)
        · exact ⟨c, .inl ⟨by rw [hstep]; exact h1.1, h1.2⟩⟩
        · refine ⟨c, .inr ⟨j, by rw [hstep]; exact h1, fun h0 r hr => ?_⟩⟩
          rw [List.drop_eq_getElem_cons hi] at hr
          rcases List.mem_cons.1 hr with rfl | hr
          · exact hl
          · exact h2 h0 r hr
      · have hl' : (30 : Int) < h[i].length := by omega
        refine ⟨ck + 3, .inl ⟨?_, fun hall => hl (hall _ (List.getElem_mem hi))⟩⟩
        rw [evL_loop]
        simp [f15l0e, gl, hi, hi30, hl']
    · have hi30 : ¬ (i : Int) < 30 := by omega
      refine ⟨ck + 1, .inr ⟨i, ?_, fun h0 => by omega⟩⟩
      rw [evL_loop]
      simp [f15l0e, gl, hi, hi30]

theorem small_ret (h : List (List Int)) : RetT cfg 15 [.t (gl h)] (bv (small h)) := by
  refine RetT.of ?_
  rw [runL_pf (fn := f15) rfl rfl]
  obtain ⟨c, h1 | ⟨j, h1, h2⟩⟩ := small_loop h h.length 0 2 (by omega)
  · have : small h = false := by
      unfold small
      simp only [decide_eq_false_iff_not]
      exact fun hh => h1.2 hh.2
    have h3 := h1.1
    simp [gl] at h3
    simp [gl, h3, this]
  · by_cases hl : h.length ≤ 30
    · have : small h = true := by
        unfold small
        simp only [decide_eq_true_eq]
        exact ⟨hl, by simpa using h2 hl⟩
      have hl' : (h.length : Int) ≤ 30 := by omega
      simp [gl] at h1
      simp [gl, h1, this, hl']
    · have : small h = false := by
        unfold small
        simp only [decide_eq_false_iff_not]
        exact fun hh => hl hh.1
      have hl' : ¬ (h.length : Int) ≤ 30 := by omega
      simp [gl] at h1
      simp [gl, h1, this, hl']

theorem awake_ret : RetT cfg 16 [] (bv true) := by
  have h : (run cfg 300 16 [] [] 0).map (·.1) = some (bv true) := by kernel_rfl
  cases hr : run cfg 300 16 [] [] 0 with
  | none => rw [hr] at h; cases h
  | some r =>
    obtain ⟨v, hp, c⟩ := r
    rw [hr] at h
    cases h
    exact RetT.of ⟨hp, c, (runL_iff _).2 ⟨300, hr⟩⟩
end Go.Proofs.Ytchjpboiebdabaa.Pv
