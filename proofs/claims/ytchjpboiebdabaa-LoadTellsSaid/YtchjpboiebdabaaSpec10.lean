/- What the functions of the layer 21 tell: Cold. -/
import Derived.Test.YtchjpboiebdabaaSpec9
set_option linter.unusedVariables false
set_option linter.unusedSimpArgs false
namespace Go.Proofs.Ytchjpboiebdabaa.Pv
open Go Go.Pev

def ncnt (l : List Int) (x : Int) : Int := - cnt l x

theorem cold_loop (l : List Int) (e : Int) (h : List (List Int)) (low : Int) (ty : Nat) (hh : h.length ≤ 1000000) (hr : ∀ r ∈ h, r.length ≤ 1000000) (h1 : 1 ≤ low) (h2 : low ≤ 2147483647) : ∀ (k i ck : Nat), i + k = h.length → ∃ c, evL cfg (.loop f25l0) ⟨[(0, .t (il l)), (2, iv low), (4, .pt ⟨4, 0, 0⟩ 2 0 0), (9, iv (bestTo (coldC l h low) (ncnt l) i)), (18, .t (gl h)), (19, iv h.length), (20, iv i)], [(⟨4, 0, 0⟩, .box ty [iv e, .t (gl h)])], ck⟩ =
    some (.exit 0, ⟨[(0, .t (il l)), (2, iv low), (4, .pt ⟨4, 0, 0⟩ 2 0 0), (9, iv (bestTo (coldC l h low) (ncnt l) h.length)), (18, .t (gl h)), (19, iv h.length), (20, iv h.length), (21, bv false)], [(⟨4, 0, 0⟩, .box ty [iv e, .t (gl h)])], c⟩) := by
  intro k
  induction k with
  | zero =>
    intro i ck hk
    obtain rfl : i = h.length := by omega
    refine ⟨ck + 1, ?_⟩
    rw [evL_loop]
    simp [f25l0e, gl]
  | succ k ih =>
    intro i ck hk
    have hi : i < h.length := by omega
    have hw : IntKind.i64.wrap ((i : Int) + 1) = (i : Int) + 1 := wrap_id (by omega) (by omega)
    have hri := hr _ (List.getElem_mem hi)
    have hw1 : IntKind.i64.wrap ((h[i].length : Int) - 1) = (h[i].length : Int) - 1 := wrap_id (by omega) (by omega)
    have hm : IntKind.i64.wrap (low * ((h[i].length : Int) - 1)) = low * ((h[i].length : Int) - 1) := by
      have := mul_small (a := low) (b := (h[i].length : Int) - 1) (by omega) h2 (by omega) (by omega)
      exact wrap_id (by omega) (by omega)
    have hct := fun s k => callEv_tr (C := cfg) (count_ret l i) rfl rfl rfl s k
    have hstep : ∃ c, evL cfg (.loop f25l0) ⟨[(0, .t (il l)), (2, iv low), (4, .pt ⟨4, 0, 0⟩ 2 0 0), (9, iv (bestTo (coldC l h low) (ncnt l) i)), (18, .t (gl h)), (19, iv h.length), (20, iv i)], [(⟨4, 0, 0⟩, .box ty [iv e, .t (gl h)])], ck⟩ =
      evL cfg (.loop f25l0) ⟨[(0, .t (il l)), (2, iv low), (4, .pt ⟨4, 0, 0⟩ 2 0 0), (9, iv (bestTo (coldC l h low) (ncnt l) (i + 1))), (18, .t (gl h)), (19, iv h.length), (20, iv ((i + 1 : Nat) : Int))], [(⟨4, 0, 0⟩, .box ty [iv e, .t (gl h)])], c⟩ := by
      have hb := bestTo_lt (coldC l h low) (ncnt l) i
      show ∃ c, _ = evL cfg (.loop f25l0) ⟨[(0, .t (il l)), (2, iv low), (4, .pt ⟨4, 0, 0⟩ 2 0 0), (9, iv (bestStep (coldC l h low) (ncnt l) (bestTo (coldC l h low) (ncnt l) i) i)), (18, .t (gl h)), (19, iv h.length), (20, iv ((i + 1 : Nat) : Int))], [(⟨4, 0, 0⟩, .box ty [iv e, .t (gl h)])], c⟩
      generalize bestTo (coldC l h low) (ncnt l) i = b at hb
      have hcb := fun s k => callEv_tr (C := cfg) (count_ret l b) rfl rfl rfl s k
      simp only [il, iv, bv, gl] at hct hcb
      unfold bestStep coldC ncnt
      by_cases c0 : (h[i].length : Int) < 2
      · have c0' : ¬ 2 ≤ h[i].length := by omega
        refine ⟨ck + 4, ?_⟩
        rw [evL_loop_n]
        simp [f25l0e, gl, hi, c0, c0', hw]
      · have c0' : 2 ≤ h[i].length := by omega
        by_cases c1 : low * ((h[i].length : Int) - 1) ≤ cnt l i
        · have c1' : ¬ cnt l i < low * ((h[i].length : Int) - 1) := by omega
          refine ⟨ck + 4, ?_⟩
          rw [evL_loop_n]
          simp [f25l0e, gl, hi, hct, hm, hw1, c0, c0', c1, c1', hw]
        · have c1' : cnt l i < low * ((h[i].length : Int) - 1) := by omega
          by_cases c3 : b < 0
          · refine ⟨ck + 6, ?_⟩
            rw [evL_loop_n]
            simp [f25l0e, gl, hi, hct, hm, hw1, c0, c0', c1, c1', c3, hw]
          · by_cases c4 : cnt l i < cnt l b
            · refine ⟨ck + 6, ?_⟩
              rw [evL_loop_n]
              simp [f25l0e, gl, hi, hct, hm, hw1, c0, c0', c1, c1', c3, hcb, c4, hw]
            · refine ⟨ck + 5, ?_⟩
              rw [evL_loop_n]
              simp [f25l0e, gl, hi, hct, hm, hw1, c0, c0', c1, c1', c3, hcb, c4, hw]
    obtain ⟨c0, hs⟩ := hstep
    obtain ⟨c, hc⟩ := ih (i + 1) c0 (by omega)
    exact ⟨c, hs.trans hc⟩

def lastOf (r : List Int) : Int := r.getD (r.length - 1) 0
def coldR (l : List Int) (e : Int) (h : List (List Int)) (low : Int) : V :=
  if may e h low = true ∧ 0 ≤ bestTo (coldC l h low) (ncnt l) h.length then tu3 (bestTo (coldC l h low) (ncnt l) h.length) (lastOf (h.getD (bestTo (coldC l h low) (ncnt l) h.length).toNat [])) true else tu3 0 0 false

theorem cold_ret (l : List Int) (e : Int) (h : List (List Int)) (low : Int) (hh : h.length ≤ 1000000) (hr : ∀ r ∈ h, r.length ≤ 1000000) : RetT cfg 25 [.t (il l), .ag [iv e, .t (gl h)], iv low] (coldR l e h low) := by
  have hmy := fun s k => callEv_tr (C := cfg) (may_ret e h low hh hr) rfl rfl rfl s k
  simp only [il, iv, bv, gl] at hmy
  unfold coldR
  by_cases hm : may e h low = true
  · have hb : 1 ≤ low ∧ low ≤ 2147483647 := by
      simp only [may, Bool.and_eq_true, decide_eq_true_eq] at hm
      exact hm.2
    obtain ⟨c, hc⟩ := cold_loop l e h low 25 hh hr hb.1 hb.2 h.length 0 4 (by omega)
    rw [hm] at hmy
    have hbst := bestTo_is (coldC l h low) (ncnt l) h.length
    simp only [il, iv, bv, gl, bestTo, Int.natCast_zero] at hc
    generalize bestTo (coldC l h low) (ncnt l) h.length = b at hc hbst
    by_cases h0 : 0 ≤ b
    · have h0' : ¬ b < 0 := by omega
      rw [if_pos ⟨hm, h0⟩]
      rcases hbst with ⟨h1, _⟩ | ⟨j, rfl, hj, hcj, _⟩
      · omega
      · have hlen : 2 ≤ h[j].length := by
          simp only [coldC, Bool.and_eq_true, decide_eq_true_eq] at hcj
          have := hcj.1
          rwa [List.getD_eq_getElem?_getD, List.getElem?_eq_getElem hj, Option.getD_some] at this
        have hrj := hr _ (List.getElem_mem hj)
        have hw1 : IntKind.i64.wrap ((h[j].length : Int) - 1) = (h[j].length : Int) - 1 := wrap_id (by omega) (by omega)
        have h3 : (1 : Int) ≤ (h[j].length : Int) := by omega
        have h4 : ((h[j].length : Int) - 1).toNat = h[j].length - 1 := by omega
        have h5 : h[j].length - 1 < h[j].length := by omega
        refine RetT.of_tu (x := [.i .i64 j, .i .i64 (lastOf h[j]), .b true]) ?_ |> (fun z => by simpa [tu3, hj] using z)
        rw [runL_pf (fn := f25) rfl rfl]
        simp [gl, hmy, hc, h0', hj, hw1, h3, h4, h5, lastOf]
    · have h0' : b < 0 := by omega
      rw [if_neg (fun h => h0 h.2)]
      refine RetT.of_tu (x := [.i .i64 0, .i .i64 0, .b false]) ?_
      rw [runL_pf (fn := f25) rfl rfl]
      simp [gl, hmy, hc, h0']
  · have hm' : may e h low = false := by simpa using hm
    rw [hm'] at hmy
    rw [if_neg (fun h => hm h.1)]
    refine RetT.of_tu (x := [.i .i64 0, .i .i64 0, .b false]) ?_
    rw [runL_pf (fn := f25) rfl rfl]
    simp [gl, hmy]
end Go.Proofs.Ytchjpboiebdabaa.Pv
