/- What the functions of the layer 21 tell: Hot, Cold. -/
import Derived.Test.YtchjpboiebdabaaSpec8
set_option linter.unusedVariables false
set_option linter.unusedSimpArgs false
namespace Go.Proofs.Ytchjpboiebdabaa.Pv
open Go Go.Pev

/-- The best of those that may be, gone through in order. -/
def bestStep (cand : Nat → Bool) (key : Int → Int) (best : Int) (i : Nat) : Int := if cand i = true ∧ (best < 0 ∨ key best < key i) then (i : Int) else best
def bestTo (cand : Nat → Bool) (key : Int → Int) : Nat → Int
  | 0 => -1
  | i + 1 => bestStep cand key (bestTo cand key i) i
theorem bestTo_lt (cand : Nat → Bool) (key : Int → Int) : ∀ i, -1 ≤ bestTo cand key i ∧ bestTo cand key i < i
  | 0 => by simp [bestTo]
  | i + 1 => by
    have := bestTo_lt cand key i
    unfold bestTo bestStep
    split <;> omega
/-- None ahead of it, in the order of the keys, then of the places. -/
def IsBest (cand : Nat → Bool) (key : Int → Int) (n : Nat) (b : Int) : Prop := (b = -1 ∧ ∀ i, i < n → cand i = false) ∨ ∃ k : Nat, b = k ∧ k < n ∧ cand k = true ∧ ∀ i : Nat, i < n → cand i = true → key i < key k ∨ (key i = key k ∧ k ≤ i)
theorem bestTo_is (cand : Nat → Bool) (key : Int → Int) : ∀ n, IsBest cand key n (bestTo cand key n)
  | 0 => .inl ⟨rfl, fun i h => by omega⟩
  | n + 1 => by
    unfold bestTo bestStep
    rcases bestTo_is cand key n with ⟨h1, h2⟩ | ⟨k, h1, h2, h3, h4⟩
    · rw [h1]
      by_cases hc : cand n = true
      · rw [if_pos ⟨hc, .inl (by omega)⟩]
        refine .inr ⟨n, rfl, by omega, hc, fun i hi hci => ?_⟩
        by_cases e : i = n
        · rw [e]; exact .inr ⟨rfl, Nat.le_refl _⟩
        · rw [h2 i (by omega)] at hci; cases hci
      · rw [if_neg (fun h => hc h.1)]
        refine .inl ⟨rfl, fun i hi => ?_⟩
        by_cases e : i = n
        · rw [e]; simpa using hc
        · exact h2 i (by omega)
    · rw [h1]
      by_cases hc : cand n = true ∧ key k < key n
      · rw [if_pos ⟨hc.1, .inr hc.2⟩]
        refine .inr ⟨n, rfl, by omega, hc.1, fun i hi hci => ?_⟩
        by_cases e : i = n
        · rw [e]; exact .inr ⟨rfl, Nat.le_refl _⟩
        · have := h4 i (by omega) hci
          omega
      · rw [if_neg (by intro h; exact hc ⟨h.1, h.2.resolve_left (by omega)⟩)]
        refine .inr ⟨k, rfl, by omega, h3, fun i hi hci => ?_⟩
        by_cases e : i = n
        · subst e
          have : ¬ key k < key i := fun h => hc ⟨hci, h⟩
          omega
        · exact h4 i (by omega) hci
theorem IsBest.eq {cand : Nat → Bool} {key : Int → Int} {n : Nat} {b c : Int} (h : IsBest cand key n b) (g : IsBest cand key n c) : b = c := by
  rcases h with ⟨rfl, h2⟩ | ⟨k, rfl, h2, h3, h4⟩ <;> rcases g with ⟨rfl, g2⟩ | ⟨j, rfl, g2, g3, g4⟩
  · rfl
  · rw [h2 j g2] at g3; cases g3
  · rw [g2 k h2] at h3; cases h3
  · have := h4 j g2 g3
    have := g4 k h2 h3
    omega

def hotC (l : List Int) (h : List (List Int)) (high : Int) (i : Nat) : Bool := decide (high * ((h.getD i []).length : Int) < cnt l i) && decide (lightest h i ≠ 0)
def coldC (l : List Int) (h : List (List Int)) (low : Int) (i : Nat) : Bool := decide (2 ≤ (h.getD i []).length) && decide (cnt l i < low * (((h.getD i []).length : Int) - 1))

theorem mul_small {a b : Int} (h1 : 0 ≤ a) (h2 : a ≤ 2147483647) (h3 : -1 ≤ b) (h4 : b ≤ 1000000) : -9223372036854775808 ≤ a * b ∧ a * b ≤ 9223372036854775807 := by
  have u : a * b ≤ 2147483647 * 1000000 := by
    by_cases hb : 0 ≤ b
    · exact Int.mul_le_mul h2 h4 hb (by omega)
    · have : a * b ≤ 0 := Int.mul_nonpos_of_nonneg_of_nonpos h1 (by omega)
      omega
  have d : a * b ≥ a * (-1) := Int.mul_le_mul_of_nonneg_left h3 h1
  constructor <;> omega

theorem hot_loop (l : List Int) (e : Int) (h : List (List Int)) (high : Int) (ty : Nat) (hh : h.length ≤ 1000000) (hr : ∀ r ∈ h, r.length ≤ 1000000) (h1 : 1 ≤ high) (h2 : high ≤ 2147483647) : ∀ (k i ck : Nat), i + k = h.length → ∃ c, evL cfg (.loop f24l0) ⟨[(0, .t (il l)), (2, iv high), (4, .pt ⟨4, 0, 0⟩ 2 0 0), (9, iv (bestTo (hotC l h high) (cnt l) i)), (17, .t (gl h)), (18, iv h.length), (19, iv i)], [(⟨4, 0, 0⟩, .box ty [iv e, .t (gl h)])], ck⟩ =
    some (.exit 0, ⟨[(0, .t (il l)), (2, iv high), (4, .pt ⟨4, 0, 0⟩ 2 0 0), (9, iv (bestTo (hotC l h high) (cnt l) h.length)), (17, .t (gl h)), (18, iv h.length), (19, iv h.length), (20, bv false)], [(⟨4, 0, 0⟩, .box ty [iv e, .t (gl h)])], c⟩) := by
  intro k
  induction k with
  | zero =>
    intro i ck hk
    obtain rfl : i = h.length := by omega
    refine ⟨ck + 1, ?_⟩
    rw [evL_loop]
    simp [f24l0e, gl]
  | succ k ih =>
    intro i ck hk
    have hi : i < h.length := by omega
    have hw : IntKind.i64.wrap ((i : Int) + 1) = (i : Int) + 1 := wrap_id (by omega) (by omega)
    have hri := hr _ (List.getElem_mem hi)
    have hm : IntKind.i64.wrap (high * (h[i].length : Int)) = high * (h[i].length : Int) := by
      have := mul_small (a := high) (b := (h[i].length : Int)) (by omega) h2 (by omega) (by omega)
      exact wrap_id (by omega) (by omega)
    have hct := fun s k => callEv_tr (C := cfg) (count_ret l i) rfl rfl rfl s k
    have hlt := fun s k => callEv_tr (C := cfg) (lightest_ret e h i hh hr) rfl rfl rfl s k
    have hstep : ∃ c, evL cfg (.loop f24l0) ⟨[(0, .t (il l)), (2, iv high), (4, .pt ⟨4, 0, 0⟩ 2 0 0), (9, iv (bestTo (hotC l h high) (cnt l) i)), (17, .t (gl h)), (18, iv h.length), (19, iv i)], [(⟨4, 0, 0⟩, .box ty [iv e, .t (gl h)])], ck⟩ =
      evL cfg (.loop f24l0) ⟨[(0, .t (il l)), (2, iv high), (4, .pt ⟨4, 0, 0⟩ 2 0 0), (9, iv (bestTo (hotC l h high) (cnt l) (i + 1))), (17, .t (gl h)), (18, iv h.length), (19, iv ((i + 1 : Nat) : Int))], [(⟨4, 0, 0⟩, .box ty [iv e, .t (gl h)])], c⟩ := by
      have hb := bestTo_lt (hotC l h high) (cnt l) i
      show ∃ c, _ = evL cfg (.loop f24l0) ⟨[(0, .t (il l)), (2, iv high), (4, .pt ⟨4, 0, 0⟩ 2 0 0), (9, iv (bestStep (hotC l h high) (cnt l) (bestTo (hotC l h high) (cnt l) i) i)), (17, .t (gl h)), (18, iv h.length), (19, iv ((i + 1 : Nat) : Int))], [(⟨4, 0, 0⟩, .box ty [iv e, .t (gl h)])], c⟩
      generalize bestTo (hotC l h high) (cnt l) i = b at hb
      have hcb := fun s k => callEv_tr (C := cfg) (count_ret l b) rfl rfl rfl s k
      simp only [il, iv, bv, gl] at hct hlt hcb
      unfold bestStep hotC
      by_cases c1 : cnt l i ≤ high * (h[i].length : Int)
      · have c1' : ¬ high * (h[i].length : Int) < cnt l i := by omega
        refine ⟨ck + 4, ?_⟩
        rw [evL_loop_n]
        simp [f24l0e, gl, hi, hct, hm, c1, c1', hw]
      · have c1' : high * (h[i].length : Int) < cnt l i := by omega
        by_cases c2 : lightest h i = 0
        · refine ⟨ck + 4, ?_⟩
          rw [evL_loop_n]
          simp [f24l0e, gl, hi, hct, hlt, hm, c1, c1', c2, hw]
        · have c2b : (lightest h i == 0) = false := by simpa using c2
          by_cases c3 : b < 0
          · refine ⟨ck + 6, ?_⟩
            rw [evL_loop_n]
            simp [f24l0e, gl, hi, hct, hlt, hm, c1, c1', c2, c2b, c3, hw]
          · by_cases c4 : cnt l b < cnt l i
            · refine ⟨ck + 6, ?_⟩
              rw [evL_loop_n]
              simp [f24l0e, gl, hi, hct, hlt, hm, c1, c1', c2, c2b, c3, hcb, c4, hw]
            · refine ⟨ck + 5, ?_⟩
              rw [evL_loop_n]
              simp [f24l0e, gl, hi, hct, hlt, hm, c1, c1', c2, c2b, c3, hcb, c4, hw]
    obtain ⟨c0, hs⟩ := hstep
    obtain ⟨c, hc⟩ := ih (i + 1) c0 (by omega)
    exact ⟨c, hs.trans hc⟩

def tu3 (a b : Int) (ok : Bool) : V := .tu [iv a, iv b, bv ok]
def hotR (l : List Int) (e : Int) (h : List (List Int)) (high : Int) : V :=
  if may e h high = true ∧ 0 ≤ bestTo (hotC l h high) (cnt l) h.length then tu3 (bestTo (hotC l h high) (cnt l) h.length) (lightest h (bestTo (hotC l h high) (cnt l) h.length)) true else tu3 0 0 false

theorem RetT.of_tu {C : Cfg} {f : Nat} {args : List V} {x : List T} (h : ∃ h c, runL C f args [] 0 = some (.tu (x.map .t), h, c)) : RetT C f args (.tu (x.map .t)) := by
  obtain ⟨h, c, h1⟩ := h
  refine ⟨_, h, c, h1, ?_⟩
  have : resOfs h (x.map .t) = some (x.map .t) := by
    clear h1
    induction x with
    | nil => rfl
    | cons a x ih => simp [resOfs, resOf1, ih]
  simp [resOf, this]

theorem hot_ret (l : List Int) (e : Int) (h : List (List Int)) (high : Int) (hh : h.length ≤ 1000000) (hr : ∀ r ∈ h, r.length ≤ 1000000) : RetT cfg 24 [.t (il l), .ag [iv e, .t (gl h)], iv high] (hotR l e h high) := by
  have hmy := fun s k => callEv_tr (C := cfg) (may_ret e h high hh hr) rfl rfl rfl s k
  simp only [il, iv, bv, gl] at hmy
  unfold hotR
  by_cases hm : may e h high = true
  · have hb : 1 ≤ high ∧ high ≤ 2147483647 := by
      simp only [may, Bool.and_eq_true, decide_eq_true_eq] at hm
      exact hm.2
    obtain ⟨c, hc⟩ := hot_loop l e h high 25 hh hr hb.1 hb.2 h.length 0 4 (by omega)
    rw [hm] at hmy
    have hlt := fun x s k => callEv_tr (C := cfg) (lightest_ret e h x hh hr) rfl rfl rfl s k
    simp only [il, iv, bv, gl, bestTo, Int.natCast_zero] at hc hlt
    generalize bestTo (hotC l h high) (cnt l) h.length = b at hc
    by_cases h0 : 0 ≤ b
    · have h0' : ¬ b < 0 := by omega
      rw [if_pos ⟨hm, h0⟩]
      refine RetT.of_tu (x := [.i .i64 b, .i .i64 (lightest h b), .b true]) ?_
      rw [runL_pf (fn := f24) rfl rfl]
      simp [gl, hmy, hc, h0', hlt]
    · have h0' : b < 0 := by omega
      rw [if_neg (fun h => h0 h.2)]
      refine RetT.of_tu (x := [.i .i64 0, .i .i64 0, .b false]) ?_
      rw [runL_pf (fn := f24) rfl rfl]
      simp [gl, hmy, hc, h0']
  · have hm' : may e h high = false := by simpa using hm
    rw [hm'] at hmy
    rw [if_neg (fun h => hm h.1)]
    refine RetT.of_tu (x := [.i .i64 0, .i .i64 0, .b false]) ?_
    rw [runL_pf (fn := f24) rfl rfl]
    simp [gl, hmy]
end Go.Proofs.Ytchjpboiebdabaa.Pv
