/- What the document's Hot and Cold tell: just what the program's do. -/
import Derived.Test.YtchjpboiebdabaaSpec11
set_option linter.unusedVariables false
set_option linter.unusedSimpArgs false
namespace Go.Proofs.Ytchjpboiebdabaa.Pv
open Go Go.Pev

/-- Nobody of the next k ones, from y on, stands ahead of x. -/
def notAhead (cand : Nat → Bool) (key : Int → Int) (x : Nat) : Nat → Nat → Bool
  | 0, _ => true
  | k + 1, y => !(cand y && (decide (key x < key y) || (decide (key y = key x) && decide (y < x)))) && notAhead cand key x k (y + 1)
theorem notAhead_iff (cand : Nat → Bool) (key : Int → Int) (x : Nat) : ∀ k y, notAhead cand key x k y = true ↔ ∀ j, y ≤ j → j < y + k → cand j = true → ¬ (key x < key j ∨ (key j = key x ∧ j < x))
  | 0, y => by simp [notAhead]; omega
  | k + 1, y => by
    simp only [notAhead, Bool.and_eq_true, notAhead_iff cand key x k (y + 1)]
    constructor
    · rintro ⟨h1, h2⟩ j hj1 hj2 hc
      by_cases e : j = y
      · subst e
        simp [hc] at h1
        omega
      · exact h2 j (by omega) (by omega) hc
    · intro h
      refine ⟨?_, fun j h1 h2 => h j (by omega) (by omega)⟩
      have := h y (Nat.le_refl _) (by omega)
      cases hc : cand y with
      | false => simp
      | true =>
        have := this hc
        simp
        omega
/-- Is x the first one? -/
def firstB (cand : Nat → Bool) (key : Int → Int) (n x : Nat) : Bool := cand x && notAhead cand key x n 0
theorem firstB_iff {cand : Nat → Bool} {key : Int → Int} {n x : Nat} (hx : x < n) {b : Int} (hb : IsBest cand key n b) : firstB cand key n x = true ↔ b = x := by
  unfold firstB
  rw [Bool.and_eq_true, notAhead_iff]
  constructor
  · rintro ⟨h1, h2⟩
    refine hb.eq (.inr ⟨x, rfl, hx, h1, fun j hj hc => ?_⟩)
    have := h2 j (by omega) (by omega) hc
    omega
  · rintro rfl
    rcases hb with ⟨h, _⟩ | ⟨k, h1, h2, h3, h4⟩
    · omega
    · obtain rfl : x = k := by omega
      exact ⟨h3, fun j _ hj hc => by have := h4 j (by omega) hc; omega⟩

set_option maxHeartbeats 1000000 in
theorem rHot_in (l : List Int) (e : Int) (h : List (List Int)) (high : Int) (ty x : Nat) (hl : l.length ≤ 1000000) (hx : x < h.length) (hh : h.length ≤ 8) (hr : ∀ r ∈ h, r.length ≤ 1000000) (h1 : 1 ≤ high) (h2 : high ≤ 2147483647) : ∀ (k y : Nat) (b : Bool) (ck : Nat), y + k = h.length → ∃ c, evL cfg (.loop f26l0) ⟨[(0, .t (il l)), (2, iv high), (4, .pt ⟨4, 0, 0⟩ 2 0 0), (9, iv x), (10, bv b), (11, iv y)], [(⟨4, 0, 0⟩, .box ty [iv e, .t (gl h)])], ck⟩ =
    some (.exit 2, ⟨[(0, .t (il l)), (2, iv high), (4, .pt ⟨4, 0, 0⟩ 2 0 0), (9, iv x), (10, bv (b && notAhead (hotC l h high) (cnt l) x k y)), (11, iv h.length), (39, bv false)], [(⟨4, 0, 0⟩, .box ty [iv e, .t (gl h)])], c⟩) := by
  intro k
  induction k with
  | zero =>
    intro y b ck hk
    obtain rfl : y = h.length := by omega
    refine ⟨ck + 1, ?_⟩
    rw [evL_loop]
    simp [f26l0e, gl, notAhead]
  | succ k ih =>
    intro y b ck hk
    have hy : y < h.length := by omega
    have hw : IntKind.i64.wrap ((y : Int) + 1) = (y : Int) + 1 := wrap_id (by omega) (by omega)
    have hc := fun s k => callEv_tr (C := cfg) (rhot_ret l e h high y hl hy hh hr h1 h2) rfl rfl rfl s k
    have hcx := fun s k => callEv_tr (C := cfg) (rcount_ret l x hl) rfl rfl rfl s k
    have hcy := fun s k => callEv_tr (C := cfg) (rcount_ret l y hl) rfl rfl rfl s k
    simp only [il, iv, bv, gl] at hc hcx hcy
    have hgo : ∀ c1 b1, evL cfg (.loop f26l0) ⟨[(0, .t (il l)), (2, iv high), (4, .pt ⟨4, 0, 0⟩ 2 0 0), (9, iv x), (10, bv b), (11, iv y)], [(⟨4, 0, 0⟩, .box ty [iv e, .t (gl h)])], ck⟩ = evL cfg (.loop f26l0) ⟨[(0, .t (il l)), (2, iv high), (4, .pt ⟨4, 0, 0⟩ 2 0 0), (9, iv x), (10, bv b1), (11, iv ((y + 1 : Nat) : Int))], [(⟨4, 0, 0⟩, .box ty [iv e, .t (gl h)])], c1⟩ →
        b1 = (b && !(hotC l h high y && (decide (cnt l x < cnt l y) || (decide (cnt l y = cnt l x) && decide (y < x))))) → ∃ c, evL cfg (.loop f26l0) ⟨[(0, .t (il l)), (2, iv high), (4, .pt ⟨4, 0, 0⟩ 2 0 0), (9, iv x), (10, bv b), (11, iv y)], [(⟨4, 0, 0⟩, .box ty [iv e, .t (gl h)])], ck⟩ =
    some (.exit 2, ⟨[(0, .t (il l)), (2, iv high), (4, .pt ⟨4, 0, 0⟩ 2 0 0), (9, iv x), (10, bv (b && notAhead (hotC l h high) (cnt l) x (k + 1) y)), (11, iv h.length), (39, bv false)], [(⟨4, 0, 0⟩, .box ty [iv e, .t (gl h)])], c⟩) := by
      intro c1 b1 hs hb1
      obtain ⟨c, hcc⟩ := ih (y + 1) b1 c1 (by omega)
      refine ⟨c, hs.trans (hcc.trans ?_)⟩
      rw [hb1, Bool.and_assoc]
      rfl
    by_cases d1 : hotC l h high y = true
    · rw [d1] at hc
      by_cases d2 : cnt l x < cnt l y
      · refine hgo (ck + 4) false (evL_loop_n ?_) (by simp [d1, d2])
        simp [f26l0e, gl, hy, hc, hcx, hcy, d2, hw]
      · by_cases d3 : cnt l y = cnt l x
        · have d3b : (cnt l y == cnt l x) = true := by simpa using d3
          by_cases d4 : y < x
          · refine hgo (ck + 4) false (evL_loop_n ?_) (by simp [d1, d3, d4])
            simp [f26l0e, gl, hy, hc, hcx, hcy, d2, d3b, d4, hw]
          · refine hgo (ck + 3) b (evL_loop_n ?_) (by simp [d1, d2, d3, d4])
            simp [f26l0e, gl, hy, hc, hcx, hcy, d2, d3b, d4, hw]
        · have d3b : (cnt l y == cnt l x) = false := by simpa using d3
          refine hgo (ck + 3) b (evL_loop_n ?_) (by simp [d1, d2, d3])
          simp [f26l0e, gl, hy, hc, hcx, hcy, d2, d3b, hw]
    · have d1' : hotC l h high y = false := by simpa using d1
      rw [d1'] at hc
      refine hgo (ck + 3) b (evL_loop_n ?_) (by simp [d1'])
      simp [f26l0e, gl, hy, hc, hw]

theorem rHot_out (l : List Int) (e : Int) (h : List (List Int)) (high : Int) (ty : Nat) (b : Int) (hb : IsBest (hotC l h high) (cnt l) h.length b) (hl : l.length ≤ 1000000) (hh : h.length ≤ 8) (hr : ∀ r ∈ h, r.length ≤ 1000000) (h1 : 1 ≤ high) (h2 : high ≤ 2147483647) : ∀ (k x : Nat) (ck : Nat), x + k = h.length → (b < 0 ∨ (x : Int) ≤ b) → ∃ c, evL cfg (.loop f26l1) ⟨[(0, .t (il l)), (2, iv high), (4, .pt ⟨4, 0, 0⟩ 2 0 0), (9, iv x)], [(⟨4, 0, 0⟩, .box ty [iv e, .t (gl h)])], ck⟩ =
    some (if 0 ≤ b then (.ret, ⟨[(6, iv b), (7, iv (lightest h b)), (8, bv true)], [], c⟩) else (.exit 0, ⟨[(0, .t (il l)), (2, iv high), (4, .pt ⟨4, 0, 0⟩ 2 0 0), (9, iv h.length), (27, bv false)], [(⟨4, 0, 0⟩, .box ty [iv e, .t (gl h)])], c⟩)) := by
  intro k
  induction k with
  | zero =>
    intro x ck hk hbx
    obtain rfl : x = h.length := by omega
    have hbn : ¬ 0 ≤ b := by
      rcases hb with ⟨h, _⟩ | ⟨j, h3, h4, _⟩ <;> omega
    refine ⟨ck + 1, ?_⟩
    rw [if_neg hbn, evL_loop]
    simp [f26l1e, gl]
  | succ k ih =>
    intro x ck hk hbx
    have hx : x < h.length := by omega
    have hw : IntKind.i64.wrap ((x : Int) + 1) = (x : Int) + 1 := wrap_id (by omega) (by omega)
    have hc := fun s k => callEv_tr (C := cfg) (rhot_ret l e h high x hl hx hh hr h1 h2) rfl rfl rfl s k
    have hn := fun s k => callEv_tr (C := cfg) (node_ret e h x hx hh hr) rfl rfl rfl s k
    obtain ⟨c1, hin⟩ := rHot_in l e h high ty x hl hx hh hr h1 h2 h.length 0 (hotC l h high x) (ck + 3) (by omega)
    have hf := firstB_iff hx hb
    unfold firstB at hf
    simp only [il, iv, bv, gl, Int.natCast_zero] at hc hn hin
    by_cases d : b = x
    · rw [hf.2 d] at hin
      refine ⟨c1 + 2, ?_⟩
      rw [if_pos (by omega), evL_loop]
      simp [f26l1e, gl, hx, hc, hin, hn, d]
    · have hff : (hotC l h high x && notAhead (hotC l h high) (cnt l) x h.length 0) = false := by
        cases hv : (hotC l h high x && notAhead (hotC l h high) (cnt l) x h.length 0) with
        | false => rfl
        | true => exact absurd (hf.1 hv) d
      rw [hff] at hin
      obtain ⟨c, hcc⟩ := ih (x + 1) (c1 + 2) (by omega) (by omega)
      refine ⟨c, ?_⟩
      rw [evL_loop_n (s1 := ⟨[(0, .t (il l)), (2, iv high), (4, .pt ⟨4, 0, 0⟩ 2 0 0), (9, iv ((x + 1 : Nat) : Int))], [(⟨4, 0, 0⟩, .box ty [iv e, .t (gl h)])], c1 + 2⟩), hcc]
      simp [f26l1e, gl, hx, hc, hin, hw]

theorem rHot_ret (l : List Int) (e : Int) (h : List (List Int)) (high : Int) (hl : l.length ≤ 1000000) (hh : h.length ≤ 1000000) (hr : ∀ r ∈ h, r.length ≤ 1000000) : RetT cfg 26 [.t (il l), .ag [iv e, .t (gl h)], iv high] (hotR l e h high) := by
  have hmy := fun s k => callEv_tr (C := cfg) (rright_ret e h hh hr) rfl rfl rfl s k
  simp only [il, iv, bv, gl] at hmy
  unfold hotR may
  by_cases hm : right e h = true
  · have hh8 : h.length ≤ 8 := by
      simp only [right, Bool.and_eq_true, decide_eq_true_eq] at hm
      exact hm.1.2.2
    rw [hm] at hmy
    by_cases h1 : high < 1
    · rw [if_neg (by simp; omega)]
      refine RetT.of_tu (x := [.i .i64 0, .i .i64 0, .b false]) ?_
      rw [runL_pf (fn := f26) rfl rfl]
      simp [gl, hmy, h1]
    · by_cases h2 : 2147483647 < high
      · rw [if_neg (by simp; omega)]
        refine RetT.of_tu (x := [.i .i64 0, .i .i64 0, .b false]) ?_
        rw [runL_pf (fn := f26) rfl rfl]
        simp [gl, hmy, h1, h2]
      · have hbst := bestTo_is (hotC l h high) (cnt l) h.length
        have hm2 : (right e h && decide (1 ≤ high ∧ high ≤ 2147483647)) = true := by simp [hm]; omega
        rw [hm2]
        generalize bestTo (hotC l h high) (cnt l) h.length = b at hbst
        obtain ⟨c, hc⟩ := rHot_out l e h high 33 b hbst hl hh8 hr (by omega) (by omega) h.length 0 3 (by omega) (by rcases hbst with ⟨h, _⟩ | ⟨j, h, _⟩ <;> omega)
        simp only [il, iv, bv, gl, Int.natCast_zero] at hc
        by_cases h0 : 0 ≤ b
        · rw [if_pos h0] at hc
          rw [if_pos ⟨rfl, h0⟩]
          refine RetT.of_tu (x := [.i .i64 b, .i .i64 (lightest h b), .b true]) ?_
          rw [runL_pf (fn := f26) rfl rfl]
          simp [gl, hmy, h1, h2, hc]
        · rw [if_neg h0] at hc
          rw [if_neg (fun h => h0 h.2)]
          refine RetT.of_tu (x := [.i .i64 0, .i .i64 0, .b false]) ?_
          rw [runL_pf (fn := f26) rfl rfl]
          simp [gl, hmy, h1, h2, hc]
  · have hm' : right e h = false := by simpa using hm
    rw [hm'] at hmy
    rw [if_neg (by simp [hm'])]
    refine RetT.of_tu (x := [.i .i64 0, .i .i64 0, .b false]) ?_
    rw [runL_pf (fn := f26) rfl rfl]
    simp [gl, hmy]
end Go.Proofs.Ytchjpboiebdabaa.Pv
