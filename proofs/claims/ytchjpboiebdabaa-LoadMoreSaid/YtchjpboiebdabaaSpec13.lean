/- What the document's Cold tells: just what the program's does. -/
import Derived.Test.YtchjpboiebdabaaSpec12
set_option linter.unusedVariables false
set_option linter.unusedSimpArgs false
namespace Go.Proofs.Ytchjpboiebdabaa.Pv
open Go Go.Pev

set_option maxHeartbeats 1000000 in
theorem rCold_in (l : List Int) (e : Int) (h : List (List Int)) (high : Int) (ty x : Nat) (hl : l.length ≤ 1000000) (hx : x < h.length) (hh : h.length ≤ 8) (hr : ∀ r ∈ h, r.length ≤ 1000000) (h1 : 1 ≤ high) (h2 : high ≤ 2147483647) : ∀ (k y : Nat) (b : Bool) (ck : Nat), y + k = h.length → ∃ c, evL cfg (.loop f27l0) ⟨[(0, .t (il l)), (2, iv high), (4, .pt ⟨4, 0, 0⟩ 2 0 0), (9, iv x), (10, bv b), (11, iv y)], [(⟨4, 0, 0⟩, .box ty [iv e, .t (gl h)])], ck⟩ =
    some (.exit 2, ⟨[(0, .t (il l)), (2, iv high), (4, .pt ⟨4, 0, 0⟩ 2 0 0), (9, iv x), (10, bv (b && notAhead (coldC l h high) (ncnt l) x k y)), (11, iv h.length), (39, bv false)], [(⟨4, 0, 0⟩, .box ty [iv e, .t (gl h)])], c⟩) := by
  intro k
  induction k with
  | zero =>
    intro y b ck hk
    obtain rfl : y = h.length := by omega
    refine ⟨ck + 1, ?_⟩
    rw [evL_loop]
    simp [f27l0e, gl, notAhead]
  | succ k ih =>
    intro y b ck hk
    have hy : y < h.length := by omega
    have hw : IntKind.i64.wrap ((y : Int) + 1) = (y : Int) + 1 := wrap_id (by omega) (by omega)
    have hc := fun s k => callEv_tr (C := cfg) (rcold_ret l e h high y hl hy hr h1 h2) rfl rfl rfl s k
    have hcx := fun s k => callEv_tr (C := cfg) (rcount_ret l x hl) rfl rfl rfl s k
    have hcy := fun s k => callEv_tr (C := cfg) (rcount_ret l y hl) rfl rfl rfl s k
    simp only [il, iv, bv, gl] at hc hcx hcy
    have hgo : ∀ c1 b1, evL cfg (.loop f27l0) ⟨[(0, .t (il l)), (2, iv high), (4, .pt ⟨4, 0, 0⟩ 2 0 0), (9, iv x), (10, bv b), (11, iv y)], [(⟨4, 0, 0⟩, .box ty [iv e, .t (gl h)])], ck⟩ = evL cfg (.loop f27l0) ⟨[(0, .t (il l)), (2, iv high), (4, .pt ⟨4, 0, 0⟩ 2 0 0), (9, iv x), (10, bv b1), (11, iv ((y + 1 : Nat) : Int))], [(⟨4, 0, 0⟩, .box ty [iv e, .t (gl h)])], c1⟩ →
        b1 = (b && !(coldC l h high y && (decide (ncnt l x < ncnt l y) || (decide (ncnt l y = ncnt l x) && decide (y < x))))) → ∃ c, evL cfg (.loop f27l0) ⟨[(0, .t (il l)), (2, iv high), (4, .pt ⟨4, 0, 0⟩ 2 0 0), (9, iv x), (10, bv b), (11, iv y)], [(⟨4, 0, 0⟩, .box ty [iv e, .t (gl h)])], ck⟩ =
    some (.exit 2, ⟨[(0, .t (il l)), (2, iv high), (4, .pt ⟨4, 0, 0⟩ 2 0 0), (9, iv x), (10, bv (b && notAhead (coldC l h high) (ncnt l) x (k + 1) y)), (11, iv h.length), (39, bv false)], [(⟨4, 0, 0⟩, .box ty [iv e, .t (gl h)])], c⟩) := by
      intro c1 b1 hs hb1
      obtain ⟨c, hcc⟩ := ih (y + 1) b1 c1 (by omega)
      refine ⟨c, hs.trans (hcc.trans ?_)⟩
      rw [hb1, Bool.and_assoc]
      rfl
    by_cases d1 : coldC l h high y = true
    · rw [d1] at hc
      by_cases d2 : cnt l y < cnt l x
      · refine hgo (ck + 4) false (evL_loop_n ?_) (by simp [ncnt, d1, d2])
        simp [f27l0e, gl, hy, hc, hcx, hcy, d2, hw]
      · by_cases d3 : cnt l y = cnt l x
        · have d3b : (cnt l y == cnt l x) = true := by simpa using d3
          by_cases d4 : y < x
          · refine hgo (ck + 4) false (evL_loop_n ?_) (by simp [ncnt, d1, d3, d4])
            simp [f27l0e, gl, hy, hc, hcx, hcy, d2, d3b, d4, hw]
          · refine hgo (ck + 3) b (evL_loop_n ?_) (by simp [ncnt, d1, d2, d3, d4])
            simp [f27l0e, gl, hy, hc, hcx, hcy, d2, d3b, d4, hw]
        · have d3b : (cnt l y == cnt l x) = false := by simpa using d3
          refine hgo (ck + 3) b (evL_loop_n ?_) (by simp [ncnt, d1, d2, d3])
          simp [f27l0e, gl, hy, hc, hcx, hcy, d2, d3b, hw]
    · have d1' : coldC l h high y = false := by simpa using d1
      rw [d1'] at hc
      refine hgo (ck + 3) b (evL_loop_n ?_) (by simp [d1'])
      simp [f27l0e, gl, hy, hc, hw]

theorem rCold_out (l : List Int) (e : Int) (h : List (List Int)) (high : Int) (ty : Nat) (b : Int) (hb : IsBest (coldC l h high) (ncnt l) h.length b) (hl : l.length ≤ 1000000) (hh : h.length ≤ 8) (hr : ∀ r ∈ h, r.length ≤ 1000000) (h1 : 1 ≤ high) (h2 : high ≤ 2147483647) : ∀ (k x : Nat) (ck : Nat), x + k = h.length → (b < 0 ∨ (x : Int) ≤ b) → ∃ c, evL cfg (.loop f27l1) ⟨[(0, .t (il l)), (2, iv high), (4, .pt ⟨4, 0, 0⟩ 2 0 0), (9, iv x)], [(⟨4, 0, 0⟩, .box ty [iv e, .t (gl h)])], ck⟩ =
    some (if 0 ≤ b then (.ret, ⟨[(6, iv b), (7, iv (lastOf (h.getD b.toNat []))), (8, bv true)], [], c⟩) else (.exit 0, ⟨[(0, .t (il l)), (2, iv high), (4, .pt ⟨4, 0, 0⟩ 2 0 0), (9, iv h.length), (27, bv false)], [(⟨4, 0, 0⟩, .box ty [iv e, .t (gl h)])], c⟩)) := by
  intro k
  induction k with
  | zero =>
    intro x ck hk hbx
    obtain rfl : x = h.length := by omega
    have hbn : ¬ 0 ≤ b := by
      rcases hb with ⟨h, _⟩ | ⟨j, h3, h4, _⟩ <;> omega
    refine ⟨ck + 1, ?_⟩
    rw [if_neg hbn, evL_loop]
    simp [f27l1e, gl]
  | succ k ih =>
    intro x ck hk hbx
    have hx : x < h.length := by omega
    have hw : IntKind.i64.wrap ((x : Int) + 1) = (x : Int) + 1 := wrap_id (by omega) (by omega)
    have hc := fun s k => callEv_tr (C := cfg) (rcold_ret l e h high x hl hx hr h1 h2) rfl rfl rfl s k
    obtain ⟨c1, hin⟩ := rCold_in l e h high ty x hl hx hh hr h1 h2 h.length 0 (coldC l h high x) (ck + 3) (by omega)
    have hf := firstB_iff hx hb
    unfold firstB at hf
    simp only [il, iv, bv, gl, Int.natCast_zero] at hc hin
    by_cases d : b = x
    · rw [hf.2 d] at hin
      have hlen : 2 ≤ h[x].length := by
        rcases hb with ⟨h3, _⟩ | ⟨j, h3, h4, h5, _⟩
        · omega
        · obtain rfl : j = x := by omega
          simp only [coldC, Bool.and_eq_true, decide_eq_true_eq] at h5
          have := h5.1
          rwa [List.getD_eq_getElem?_getD, List.getElem?_eq_getElem hx, Option.getD_some] at this
      have hrj := hr _ (List.getElem_mem hx)
      have hw1 : IntKind.i64.wrap ((h[x].length : Int) - 1) = (h[x].length : Int) - 1 := wrap_id (by omega) (by omega)
      have h3 : (1 : Int) ≤ (h[x].length : Int) := by omega
      have h4 : ((h[x].length : Int) - 1).toNat = h[x].length - 1 := by omega
      have h5 : h[x].length - 1 < h[x].length := by omega
      refine ⟨c1 + 2, ?_⟩
      rw [if_pos (by omega), evL_loop]
      simp [f27l1e, gl, hx, hc, hin, d, hw1, h3, h4, h5, lastOf]
    · have hff : (coldC l h high x && notAhead (coldC l h high) (ncnt l) x h.length 0) = false := by
        cases hv : (coldC l h high x && notAhead (coldC l h high) (ncnt l) x h.length 0) with
        | false => rfl
        | true => exact absurd (hf.1 hv) d
      rw [hff] at hin
      obtain ⟨c, hcc⟩ := ih (x + 1) (c1 + 2) (by omega) (by omega)
      refine ⟨c, ?_⟩
      rw [evL_loop_n (s1 := ⟨[(0, .t (il l)), (2, iv high), (4, .pt ⟨4, 0, 0⟩ 2 0 0), (9, iv ((x + 1 : Nat) : Int))], [(⟨4, 0, 0⟩, .box ty [iv e, .t (gl h)])], c1 + 2⟩), hcc]
      simp [f27l1e, gl, hx, hc, hin, hw]

theorem rCold_ret (l : List Int) (e : Int) (h : List (List Int)) (high : Int) (hl : l.length ≤ 1000000) (hh : h.length ≤ 1000000) (hr : ∀ r ∈ h, r.length ≤ 1000000) : RetT cfg 27 [.t (il l), .ag [iv e, .t (gl h)], iv high] (coldR l e h high) := by
  have hmy := fun s k => callEv_tr (C := cfg) (rright_ret e h hh hr) rfl rfl rfl s k
  simp only [il, iv, bv, gl] at hmy
  unfold coldR may
  by_cases hm : right e h = true
  · have hh8 : h.length ≤ 8 := by
      simp only [right, Bool.and_eq_true, decide_eq_true_eq] at hm
      exact hm.1.2.2
    rw [hm] at hmy
    by_cases h1 : high < 1
    · rw [if_neg (by simp; omega)]
      refine RetT.of_tu (x := [.i .i64 0, .i .i64 0, .b false]) ?_
      rw [runL_pf (fn := f27) rfl rfl]
      simp [gl, hmy, h1]
    · by_cases h2 : 2147483647 < high
      · rw [if_neg (by simp; omega)]
        refine RetT.of_tu (x := [.i .i64 0, .i .i64 0, .b false]) ?_
        rw [runL_pf (fn := f27) rfl rfl]
        simp [gl, hmy, h1, h2]
      · have hbst := bestTo_is (coldC l h high) (ncnt l) h.length
        have hm2 : (right e h && decide (1 ≤ high ∧ high ≤ 2147483647)) = true := by simp [hm]; omega
        rw [hm2]
        generalize bestTo (coldC l h high) (ncnt l) h.length = b at hbst
        obtain ⟨c, hc⟩ := rCold_out l e h high 33 b hbst hl hh8 hr (by omega) (by omega) h.length 0 3 (by omega) (by rcases hbst with ⟨h, _⟩ | ⟨j, h, _⟩ <;> omega)
        simp only [il, iv, bv, gl, Int.natCast_zero] at hc
        by_cases h0 : 0 ≤ b
        · rw [if_pos h0] at hc
          rw [if_pos ⟨rfl, h0⟩]
          refine RetT.of_tu (x := [.i .i64 b, .i .i64 (lastOf (h.getD b.toNat [])), .b true]) ?_
          rw [runL_pf (fn := f27) rfl rfl]
          simp [gl, hmy, h1, h2, hc]
        · rw [if_neg h0] at hc
          rw [if_neg (fun h => h0 h.2)]
          refine RetT.of_tu (x := [.i .i64 0, .i .i64 0, .b false]) ?_
          rw [runL_pf (fn := f27) rfl rfl]
          simp [gl, hmy, h1, h2, hc]
  · have hm' : right e h = false := by simpa using hm
    rw [hm'] at hmy
    rw [if_neg (by simp [hm'])]
    refine RetT.of_tu (x := [.i .i64 0, .i .i64 0, .b false]) ?_
    rw [runL_pf (fn := f27) rfl rfl]
    simp [gl, hmy]
end Go.Proofs.Ytchjpboiebdabaa.Pv
