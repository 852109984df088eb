/- What the functions of the layers 2, 17 and 21 tell. -/
import Derived.Test.YtchjpboiebdabaaCfg1
set_option linter.unusedVariables false
set_option linter.unusedSimpArgs false
namespace Go.Proofs.Ytchjpboiebdabaa.Pv
open Go Go.Pev

theorem has_loop (l : List Int) (x : Int) (hl : l.length ≤ 1000000) : ∀ (k i ck : Nat), i + k = l.length → ∃ c, evL cfg (.loop f38l0) ⟨[(0, .t (il l)), (1, iv x), (5, iv i)], [], ck⟩ =
    some (if (l.drop i).contains x then (.ret, ⟨[(4, bv true)], [], c⟩) else (.exit 0, ⟨[(0, .t (il l)), (1, iv x), (5, iv l.length), (9, bv false)], [], c⟩)) := by
  intro k
  induction k with
  | zero =>
    intro i ck h
    obtain rfl : i = l.length := by omega
    refine ⟨ck + 1, ?_⟩
    rw [evL_loop]
    simp [f38l0e]
  | succ k ih =>
    intro i ck h
    have hi : i < l.length := by omega
    by_cases hx : l[i] = x
    · refine ⟨ck + 3, ?_⟩
      rw [evL_loop, contains_at hi hx]
      simp [f38l0e, hi, hx]
    · obtain ⟨c, hc⟩ := ih (i + 1) (ck + 3) (by omega)
      refine ⟨c, ?_⟩
      rw [evL_loop_n (s1 := ⟨[(0, .t (il l)), (1, iv x), (5, iv ((i + 1 : Nat) : Int))], [], ck + 3⟩), hc, contains_not hi hx]
      have hb : (l[i] == x) = false := by simp [hx]
      have hw : IntKind.i64.wrap ((i : Int) + 1) = (i : Int) + 1 := wrap_id (by omega) (by omega)
      simp [f38l0e, hi, hb, hw]

theorem has_ret (l : List Int) (x : Int) (hl : l.length ≤ 1000000) : RetT cfg 38 [.t (il l), iv x] (bv (l.contains x)) := by
  obtain ⟨c, hc⟩ := has_loop l x hl l.length 0 2 (by omega)
  refine RetT.of ?_
  rw [runL_pf (fn := f38) rfl rfl]
  simp at hc
  by_cases hx : x ∈ l <;> simp [hx] at hc <;> simp [hc, hx]

/-- How often an expert was asked. -/
def cnt (l : List Int) (x : Int) : Int := if 0 ≤ x ∧ x < l.length then l.getD x.toNat 0 else 0

theorem count_ret (l : List Int) (x : Int) : RetT cfg 20 [.t (il l), iv x] (iv (cnt l x)) := by
  refine RetT.of ?_
  rw [runL_pf (fn := f20) rfl rfl]
  unfold cnt
  by_cases h0 : x < 0
  · have h0' : ¬ (0 ≤ x) := by omega
    simp [h0, h0']
  · have h0' : 0 ≤ x := by omega
    by_cases h1 : (l.length : Int) ≤ x
    · have h2 : ¬ x < l.length := by omega
      simp [h0, h0', h1, h2]
    · have h2 : x < l.length := by omega
      have h3 : x.toNat < l.length := by omega
      simp [h0, h0', h1, h2, h3]

theorem rcount_loop (l : List Int) (x : Int) (hl : l.length ≤ 1000000) : ∀ (k i ck : Nat), i + k = l.length → ((i : Int) ≤ x ∨ x < 0 ∨ l.length ≤ x) → ∃ c, evL cfg (.loop f18l0) ⟨[(0, .t (il l)), (1, iv x), (5, iv i)], [], ck⟩ =
    some (if 0 ≤ x ∧ x < l.length then (.ret, ⟨[(4, iv (l.getD x.toNat 0))], [], c⟩) else (.exit 0, ⟨[(0, .t (il l)), (1, iv x), (5, iv l.length), (9, bv false)], [], c⟩)) := by
  intro k
  induction k with
  | zero =>
    intro i ck h hx
    obtain rfl : i = l.length := by omega
    refine ⟨ck + 1, ?_⟩
    rw [evL_loop, if_neg (by omega)]
    simp [f18l0e]
  | succ k ih =>
    intro i ck h hx
    have hi : i < l.length := by omega
    by_cases hxi : (i : Int) = x
    · refine ⟨ck + 3, ?_⟩
      subst hxi
      rw [evL_loop, if_pos (by omega)]
      simp [f18l0e, hi]
    · obtain ⟨c, hc⟩ := ih (i + 1) (ck + 3) (by omega) (by omega)
      refine ⟨c, ?_⟩
      rw [evL_loop_n (s1 := ⟨[(0, .t (il l)), (1, iv x), (5, iv ((i + 1 : Nat) : Int))], [], ck + 3⟩), hc]
      have hb : ((i : Int) == x) = false := by simp [hxi]
      have hw : IntKind.i64.wrap ((i : Int) + 1) = (i : Int) + 1 := wrap_id (by omega) (by omega)
      simp [f18l0e, hi, hb, hw]

theorem rcount_ret (l : List Int) (x : Int) (hl : l.length ≤ 1000000) : RetT cfg 18 [.t (il l), iv x] (iv (cnt l x)) := by
  obtain ⟨c, hc⟩ := rcount_loop l x hl l.length 0 2 (by omega) (by omega)
  refine RetT.of ?_
  rw [runL_pf (fn := f18) rfl rfl]
  unfold cnt
  by_cases hx : 0 ≤ x ∧ x < l.length
  · simp [hx] at hc
    simp [hc, hx]
  · rw [if_neg hx] at hc ⊢
    simp at hc
    simp [hc]
end Go.Proofs.Ytchjpboiebdabaa.Pv
