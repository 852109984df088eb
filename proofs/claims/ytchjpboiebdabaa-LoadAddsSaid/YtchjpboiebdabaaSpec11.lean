/- What the document's functions of the layer 21 tell: node, hot, cold. -/
import Derived.Test.YtchjpboiebdabaaSpec10
set_option linter.unusedVariables false
set_option linter.unusedSimpArgs false
namespace Go.Proofs.Ytchjpboiebdabaa.Pv
open Go Go.Pev

theorem holds_at {h : List (List Int)} {i : Nat} (hi : i < h.length) (m : Int) : holds h i m = h[i].contains m := by
  unfold holds
  have : (0 : Int) ≤ i ∧ (i : Int) < h.length := by omega
  simp [this, hi]

theorem node_in (e : Int) (h : List (List Int)) (i : Nat) (w : Int) (ty : Nat) (hi : i < h.length) (hh : h.length ≤ 1000000) (hr : ∀ r ∈ h, r.length ≤ 1000000) : ∀ (k : Nat) (n : Int) (ck : Nat), n + k = 5 → 1 ≤ n → ∃ c,
    (∃ r, evL cfg (.loop f42l0) ⟨[(1, iv i), (2, .pt ⟨2, 0, 0⟩ 2 0 0), (5, iv w), (6, iv n)], [(⟨2, 0, 0⟩, .box ty [iv e, .t (gl h)])], ck⟩ = some (.ret, ⟨[(4, iv r)], [], c⟩) ∧ n ≤ r ∧ r ≤ 4 ∧ holds h i r = false ∧ (wt h r : Int) = w ∧ ∀ m, n ≤ m → m < r → holds h i m = false → (wt h m : Int) ≠ w) ∨
    (evL cfg (.loop f42l0) ⟨[(1, iv i), (2, .pt ⟨2, 0, 0⟩ 2 0 0), (5, iv w), (6, iv n)], [(⟨2, 0, 0⟩, .box ty [iv e, .t (gl h)])], ck⟩ = some (.exit 2, ⟨[(1, iv i), (2, .pt ⟨2, 0, 0⟩ 2 0 0), (5, iv w), (6, iv 5), (12, bv false)], [(⟨2, 0, 0⟩, .box ty [iv e, .t (gl h)])], c⟩) ∧ ∀ m, n ≤ m → m ≤ 4 → holds h i m = false → (wt h m : Int) ≠ w) := by
  intro k
  induction k with
  | zero =>
    intro n ck hk hn
    obtain rfl : n = 5 := by omega
    refine ⟨ck + 1, .inr ⟨?_, fun m h1 h2 => by omega⟩⟩
    rw [evL_loop]
    simp [f42l0e]
  | succ k ih =>
    intro n ck hk hn
    have hn5 : n < 5 := by omega
    have hw : IntKind.i64.wrap (n + 1) = n + 1 := wrap_id (by omega) (by omega)
    have hri := hr _ (List.getElem_mem hi)
    have hc := fun s k => callEv_tr (C := cfg) (has_ret h[i] n hri) rfl rfl rfl s k
    have hq := fun s k => callEv_tr (C := cfg) (rweight_ret e h n hh hr) rfl rfl rfl s k
    have hat := holds_at hi n
    simp only [il, iv, bv, gl] at hc hq
    have hgo : ∀ c1, evL cfg (.loop f42l0) ⟨[(1, iv i), (2, .pt ⟨2, 0, 0⟩ 2 0 0), (5, iv w), (6, iv n)], [(⟨2, 0, 0⟩, .box ty [iv e, .t (gl h)])], ck⟩ = evL cfg (.loop f42l0) ⟨[(1, iv i), (2, .pt ⟨2, 0, 0⟩ 2 0 0), (5, iv w), (6, iv (n + 1))], [(⟨2, 0, 0⟩, .box ty [iv e, .t (gl h)])], c1⟩ → (holds h i n = false → (wt h n : Int) ≠ w) → ∃ c,
        (∃ r, evL cfg (.loop f42l0) ⟨[(1, iv i), (2, .pt ⟨2, 0, 0⟩ 2 0 0), (5, iv w), (6, iv n)], [(⟨2, 0, 0⟩, .box ty [iv e, .t (gl h)])], ck⟩ = some (.ret, ⟨[(4, iv r)], [], c⟩) ∧ n ≤ r ∧ r ≤ 4 ∧ holds h i r = false ∧ (wt h r : Int) = w ∧ ∀ m, n ≤ m → m < r → holds h i m = false → (wt h m : Int) ≠ w) ∨
        (evL cfg (.loop f42l0) ⟨[(1, iv i), (2, .pt ⟨2, 0, 0⟩ 2 0 0), (5, iv w), (6, iv n)], [(⟨2, 0, 0⟩, .box ty [iv e, .t (gl h)])], ck⟩ = some (.exit 2, ⟨[(1, iv i), (2, .pt ⟨2, 0, 0⟩ 2 0 0), (5, iv w), (6, iv 5), (12, bv false)], [(⟨2, 0, 0⟩, .box ty [iv e, .t (gl h)])], c⟩) ∧ ∀ m, n ≤ m → m ≤ 4 → holds h i m = false → (wt h m : Int) ≠ w) := by
      intro c1 hs hne
      obtain ⟨c, ⟨r, h1, h2, h3, h4, h5, h6⟩ | ⟨h1, h2⟩⟩ := ih (n + 1) c1 (by omega) (by omega)
      · refine ⟨c, .inl ⟨r, hs.trans h1, by omega, h3, h4, h5, fun m a b d => ?_⟩⟩
        by_cases e : m = n
        · rw [e] at d ⊢; exact hne d
        · exact h6 m (by omega) b d
      · refine ⟨c, .inr ⟨hs.trans h1, fun m a b d => ?_⟩⟩
        by_cases e : m = n
        · rw [e] at d ⊢; exact hne d
        · exact h2 m (by omega) b d
    by_cases h1 : h[i].contains n = true
    · refine hgo (ck + 3) ?_ (fun h => by rw [hat, h1] at h; cases h)
      rw [h1] at hc
      refine evL_loop_n ?_
      simp [f42l0e, gl, hn5, hi, hc, hw]
    · have h1' : h[i].contains n = false := by simpa using h1
      rw [h1'] at hc
      by_cases h2 : (wt h n : Int) = w
      · refine ⟨ck + 3, .inl ⟨n, ?_, Int.le_refl _, by omega, by rw [hat, h1'], h2, fun m a b => by omega⟩⟩
        have h2b : ((wt h n : Int) == w) = true := by simpa using h2
        rw [evL_loop]
        simp [f42l0e, gl, hn5, hi, hc, hq, h2b]
      · refine hgo (ck + 3) ?_ (fun _ => h2)
        have h2b : ((wt h n : Int) == w) = false := by simpa using h2
        refine evL_loop_n ?_
        simp [f42l0e, gl, hn5, hi, hc, hq, h2b, hw]

theorem node_out (e : Int) (h : List (List Int)) (i : Nat) (ty : Nat) (hi : i < h.length) (hh : h.length ≤ 1000000) (hr : ∀ r ∈ h, r.length ≤ 1000000) : ∀ (k : Nat) (w : Int) (ck : Nat), w + k = 9 → 0 ≤ w → (∀ m, 1 ≤ m → m ≤ 4 → holds h i m = false → w ≤ wt h m) → ∃ c,
    (∃ r, evL cfg (.loop f42l1) ⟨[(1, iv i), (2, .pt ⟨2, 0, 0⟩ 2 0 0), (5, iv w)], [(⟨2, 0, 0⟩, .box ty [iv e, .t (gl h)])], ck⟩ = some (.ret, ⟨[(4, iv r)], [], c⟩) ∧ IsLight h i r) ∨
    (evL cfg (.loop f42l1) ⟨[(1, iv i), (2, .pt ⟨2, 0, 0⟩ 2 0 0), (5, iv w)], [(⟨2, 0, 0⟩, .box ty [iv e, .t (gl h)])], ck⟩ = some (.exit 0, ⟨[(1, iv i), (2, .pt ⟨2, 0, 0⟩ 2 0 0), (5, iv 9), (8, bv false)], [(⟨2, 0, 0⟩, .box ty [iv e, .t (gl h)])], c⟩) ∧ ∀ m, 1 ≤ m → m ≤ 4 → holds h i m = false → (9 : Int) ≤ wt h m) := by
  intro k
  induction k with
  | zero =>
    intro w ck hk h0 hm
    obtain rfl : w = 9 := by omega
    refine ⟨ck + 1, .inr ⟨?_, hm⟩⟩
    rw [evL_loop]
    simp [f42l1e]
  | succ k ih =>
    intro w ck hk h0 hm
    have hw9 : w < 9 := by omega
    have hw : IntKind.i64.wrap (w + 1) = w + 1 := wrap_id (by omega) (by omega)
    obtain ⟨c1, ⟨r, h1, h2, h3, h4, h5, h6⟩ | ⟨h1, h2⟩⟩ := node_in e h i w ty hi hh hr 4 1 (ck + 2) (by omega) (by omega)
    · refine ⟨c1, .inl ⟨r, ?_, .inr ⟨h2, h3, h4, fun m a b d => ?_⟩⟩⟩
      · simp only [gl, iv] at h1
        rw [evL_loop]
        simp [f42l1e, gl, hw9, h1]
      · have := hm m a b d
        by_cases hlt : m < r
        · have := h6 m a hlt d
          omega
        · omega
    · obtain ⟨c, hc⟩ := ih (w + 1) (c1 + 1) (by omega) (by omega) (fun m a b d => by have := hm m a b d; have := h2 m a b d; omega)
      have hs : evL cfg (.loop f42l1) ⟨[(1, iv i), (2, .pt ⟨2, 0, 0⟩ 2 0 0), (5, iv w)], [(⟨2, 0, 0⟩, .box ty [iv e, .t (gl h)])], ck⟩ = evL cfg (.loop f42l1) ⟨[(1, iv i), (2, .pt ⟨2, 0, 0⟩ 2 0 0), (5, iv (w + 1))], [(⟨2, 0, 0⟩, .box ty [iv e, .t (gl h)])], c1 + 1⟩ := by
        refine evL_loop_n ?_
        simp only [gl, iv, bv] at h1
        simp [f42l1e, gl, hw9, h1, hw]
      refine ⟨c, ?_⟩
      rw [hs]
      exact hc

theorem wt_le (h : List (List Int)) (m : Int) : wt h m ≤ h.length := by
  unfold wt
  split
  · exact List.countP_le_length
  · omega

theorem node_ret (e : Int) (h : List (List Int)) (i : Nat) (hi : i < h.length) (hh : h.length ≤ 8) (hr : ∀ r ∈ h, r.length ≤ 1000000) : RetT cfg 42 [.ag [iv e, .t (gl h)], iv i] (iv (lightest h i)) := by
  refine RetT.of ?_
  rw [runL_pf (fn := f42) rfl rfl]
  obtain ⟨c, ⟨r, h1, h2⟩ | ⟨h1, h2⟩⟩ := node_out e h i 33 hi (by omega) hr 9 0 2 (by omega) (by omega) (fun m a b d => by omega)
  · rw [(lightest_is h i).eq h2]
    simp only [gl, iv] at h1
    simp [gl, h1]
  · have h3 : IsLight h i 0 := .inl ⟨rfl, fun m a b => by
      cases hm : holds h i m with
      | true => rfl
      | false =>
        have := h2 m a b hm
        have := wt_le h m
        omega⟩
    rw [(lightest_is h i).eq h3]
    simp only [gl, iv, bv] at h1
    simp [gl, h1]

theorem light_pos (h : List (List Int)) (x : Int) : decide (0 < lightest h x) = decide (lightest h x ≠ 0) := by
  rcases lightest_is h x with ⟨h1, _⟩ | ⟨h1, _⟩
  · simp [h1]
  · have : lightest h x ≠ 0 := by omega
    have h2 : 0 < lightest h x := by omega
    simp [this, h2]

theorem rhot_ret (l : List Int) (e : Int) (h : List (List Int)) (high : Int) (i : Nat) (hl : l.length ≤ 1000000) (hi : i < h.length) (hh : h.length ≤ 8) (hr : ∀ r ∈ h, r.length ≤ 1000000) (h1 : 1 ≤ high) (h2 : high ≤ 2147483647) : RetT cfg 41 [.t (il l), .ag [iv e, .t (gl h)], iv high, iv i] (bv (hotC l h high i)) := by
  refine RetT.of ?_
  rw [runL_pf (fn := f41) rfl rfl]
  have hri := hr _ (List.getElem_mem hi)
  have hm : IntKind.i64.wrap (high * (h[i].length : Int)) = high * (h[i].length : Int) := by
    have := mul_small (a := high) (b := (h[i].length : Int)) (by omega) h2 (by omega) (by omega)
    exact wrap_id (by omega) (by omega)
  have hq := fun hp => callQ_tr (C := cfg) (rcount_ret l i hl) rfl hp
  have hn := fun hp => callQ_tr (C := cfg) (node_ret e h i hi hh hr) rfl hp
  simp only [il, iv, bv, gl] at hq hn
  unfold hotC
  rw [← light_pos]
  by_cases c1 : high * (h[i].length : Int) < cnt l i
  · simp [gl, hi, hq, hn, hm, c1]
  · simp [gl, hi, hq, hn, hm, c1]

theorem rcold_ret (l : List Int) (e : Int) (h : List (List Int)) (low : Int) (i : Nat) (hl : l.length ≤ 1000000) (hi : i < h.length) (hr : ∀ r ∈ h, r.length ≤ 1000000) (h1 : 1 ≤ low) (h2 : low ≤ 2147483647) : RetT cfg 43 [.t (il l), .ag [iv e, .t (gl h)], iv low, iv i] (bv (coldC l h low i)) := by
  refine RetT.of ?_
  rw [runL_pf (fn := f43) rfl rfl]
  have hri := hr _ (List.getElem_mem hi)
  have hw1 : IntKind.i64.wrap ((h[i].length : Int) - 1) = (h[i].length : Int) - 1 := wrap_id (by omega) (by omega)
  have hm : IntKind.i64.wrap (low * ((h[i].length : Int) - 1)) = low * ((h[i].length : Int) - 1) := by
    have := mul_small (a := low) (b := (h[i].length : Int) - 1) (by omega) h2 (by omega) (by omega)
    exact wrap_id (by omega) (by omega)
  have hq := fun hp => callQ_tr (C := cfg) (rcount_ret l i hl) rfl hp
  have hct := fun s k => callEv_tr (C := cfg) (rcount_ret l i hl) rfl rfl rfl s k
  simp only [il, iv, bv, gl] at hq hct
  unfold coldC
  by_cases c1 : (1 : Int) < h[i].length
  · have c1' : 2 ≤ h[i].length := by omega
    simp [gl, hi, hq, hct, hm, hw1, c1, c1']
  · have c1' : ¬ 2 ≤ h[i].length := by omega
    simp [gl, hi, hq, hct, hm, hw1, c1, c1']
end Go.Proofs.Ytchjpboiebdabaa.Pv
