/- Windows: what the document's Right and Same tell; Accept, whole. -/
import Derived.Test.YtfclnkhhabiheaaSWin2
set_option linter.unusedVariables false
set_option linter.unusedSimpArgs false
namespace Go.Proofs.Ytfclnkhhabiheaa.Pv
open Go Go.Pev

def I64' (n : Int) : Prop := -9223372036854775808 ≤ n ∧ n ≤ 9223372036854775807

theorem accept_ret (low : Int) (l : List Int) (n : Int) (hw : I64' low) (hl : l.length ≤ 1000000) (hn : ∀ n ∈ l, I64' n) : RetT cfg 29 [.ag [iv low, .t (il l)], iv n] (accV (acc low l n)) := by
  by_cases hc : wright low l = true ∧ low ≤ n ∧ n ≤ 2147483647 ∧ ¬ n ∈ l
  · exact accept_yes low l n hc.1 hc.2.1 hc.2.2.1 hc.2.2.2
  · have : acc low l n = (low, l, false) := by unfold acc; rw [if_neg hc]
    rw [this]
    exact accept_no low l n hw hl (fun x hx => (hn x hx).2) hc

theorem rwright_loop (low : Int) (r : List Int) (ty : Nat) (hr : r.length ≤ 1000000) : ∀ (k j : Nat) (last : Int) (ck : Nat), j + k = r.length → ((j = 0 ∧ last = low - 1) ∨ (0 < j ∧ r[j - 1]? = some last ∧ low ≤ last)) → ∃ c, evL cfg (.loop f32l0) ⟨[(1, .pt ⟨1, 0, 0⟩ 2 0 0), (3, iv j)], [(⟨1, 0, 0⟩, .box ty [iv low, .t (il r)])], ck⟩ =
    some (if upM last (r.drop j) then (.exit 0, ⟨[(1, .pt ⟨1, 0, 0⟩ 2 0 0), (3, iv r.length), (22, bv false)], [(⟨1, 0, 0⟩, .box ty [iv low, .t (il r)])], c⟩) else (.ret, ⟨[(2, bv false)], [], c⟩)) := by
  intro k
  induction k with
  | zero =>
    intro j last ck h _
    obtain rfl : j = r.length := by omega
    refine ⟨ck + 1, ?_⟩
    rw [evL_loop]
    simp [f32l0e, upM]
  | succ k ih =>
    intro j last ck h hlast
    have hj : j < r.length := by omega
    have hw : IntKind.i64.wrap ((j : Int) + 1) = (j : Int) + 1 := wrap_id (by omega) (by omega)
    have hw2 : IntKind.i64.wrap ((j : Int) - 1) = (j : Int) - 1 := wrap_id (by omega) (by omega)
    rw [upM_at last hj]
    by_cases h1 : r[j] < low
    · have h1' : ¬ last < r[j] := by rcases hlast with ⟨_, h⟩ | ⟨_, _, h⟩ <;> omega
      refine ⟨ck + 3, ?_⟩
      rw [evL_loop]
      simp [f32l0e, hj, h1, h1']
    · by_cases h2 : 2147483647 < r[j]
      · have h2' : ¬ r[j] ≤ 2147483647 := by omega
        refine ⟨ck + 3, ?_⟩
        rw [evL_loop]
        simp [f32l0e, hj, h1, h2, h2']
      · have h2' : r[j] ≤ 2147483647 := by omega
        have h2d : decide (r[j] ≤ 2147483647) = true := by simpa using h2'
        rcases hlast with ⟨rfl, rfl⟩ | ⟨h0, hl1, hl2⟩
        · obtain ⟨c, hc⟩ := ih 1 r[0] (ck + 3) (by omega) (.inr ⟨by omega, by simp [hj], by omega⟩)
          have h3d : decide (low - (1 : Int) < r[0]) = true := by simp; omega
          refine ⟨c, ?_⟩
          rw [evL_loop_n (s1 := ⟨[(1, .pt ⟨1, 0, 0⟩ 2 0 0), (3, iv ((1 : Nat) : Int))], [(⟨1, 0, 0⟩, .box ty [iv low, .t (il r)])], ck + 3⟩), hc]
          · rw [h3d, h2d, Bool.true_and, Bool.true_and]
          · simp at hw
            simp [f32l0e, hj, h1, h2, hw]
        · have h0' : (0 : Int) < j := by omega
          have h4 : (1 : Int) ≤ (j : Int) := by omega
          have h5 : ((j : Int) - 1).toNat = j - 1 := by omega
          have hj1 : j - 1 < r.length := by omega
          have hl1' : r[j - 1] = last := by rw [List.getElem?_eq_getElem hj1] at hl1; exact Option.some.inj hl1
          by_cases h3 : r[j] ≤ last
          · have h3' : ¬ last < r[j] := by omega
            refine ⟨ck + 3, ?_⟩
            rw [evL_loop]
            simp [f32l0e, hj, h1, h2, h0', h0, hw2, h4, h5, hj1, hl1', h3, h3']
          · have h3' : last < r[j] := by omega
            obtain ⟨c, hc⟩ := ih (j + 1) r[j] (ck + 3) (by omega) (.inr ⟨by omega, by simp [hj], by omega⟩)
            refine ⟨c, ?_⟩
            rw [evL_loop_n (s1 := ⟨[(1, .pt ⟨1, 0, 0⟩ 2 0 0), (3, iv ((j + 1 : Nat) : Int))], [(⟨1, 0, 0⟩, .box ty [iv low, .t (il r)])], ck + 3⟩), hc]
            · simp [h2', h3']
            · simp [f32l0e, hj, h1, h2, h0', h0, hw2, h4, h5, hj1, hl1', h3, hw]

theorem rwright_ret (low : Int) (l : List Int) (hl : l.length ≤ 1000000) : RetT cfg 32 [.ag [iv low, .t (il l)]] (bv (wright low l)) := by
  refine RetT.of ?_
  rw [runL_pf (fn := f32) rfl rfl]
  obtain ⟨c, hc⟩ := rwright_loop low l 44 hl l.length 0 (low - 1) 3 (by omega) (.inl ⟨rfl, rfl⟩)
  simp only [List.drop_zero, il, iv, bv, Int.natCast_zero] at hc
  by_cases h0 : low < 0
  · have h0' : ¬ 0 ≤ low := by omega
    simp [wright, h0, h0']
  · have h0' : 0 ≤ low := by omega
    by_cases h2 : 2147483647 < low
    · have h2' : ¬ low ≤ 2147483647 := by omega
      simp [wright, h0, h2, h2']
    · have h2' : low ≤ 2147483647 := by omega
      by_cases h3 : (32 : Int) < l.length
      · have h3' : ¬ l.length ≤ 32 := by omega
        simp [wright, h0, h2, h3, h3']
      · have h3' : l.length ≤ 32 := by omega
        by_cases h1 : upM (low - 1) l = true
        · rw [if_pos h1] at hc
          simp [hc, wright, h0, h0', h1, h2, h2', h3, h3']
        · rw [if_neg h1] at hc
          simp [hc, wright, h0, h1, h2, h3]

theorem wsame_loop (la lb : Int) (a b : List Int) (ty : Nat) (hl : a.length ≤ 1000000) (hab : a.length = b.length) : ∀ (k i ck : Nat), i + k = a.length → ∃ c, evL cfg (.loop f31l0) ⟨[(2, .pt ⟨2, 0, 0⟩ 2 0 0), (3, .pt ⟨3, 0, 1⟩ 2 0 0), (5, iv i)], [(⟨3, 0, 1⟩, .box ty [iv lb, .t (il b)]), (⟨2, 0, 0⟩, .box ty [iv la, .t (il a)])], ck⟩ =
    some (if a.drop i = b.drop i then (.exit 0, ⟨[(2, .pt ⟨2, 0, 0⟩ 2 0 0), (3, .pt ⟨3, 0, 1⟩ 2 0 0), (5, iv a.length), (24, bv false)], [(⟨3, 0, 1⟩, .box ty [iv lb, .t (il b)]), (⟨2, 0, 0⟩, .box ty [iv la, .t (il a)])], c⟩) else (.ret, ⟨[(4, bv false)], [], c⟩)) := by
  intro k
  induction k with
  | zero =>
    intro i ck h
    obtain rfl : i = a.length := by omega
    refine ⟨ck + 1, ?_⟩
    have h1 : a.drop a.length = b.drop a.length := by rw [List.drop_length, hab, List.drop_length]
    rw [evL_loop, if_pos h1]
    simp [f31l0e]
  | succ k ih =>
    intro i ck h
    have hi : i < a.length := by omega
    have hi' : i < b.length := by omega
    have h1 : a.drop i = b.drop i ↔ a[i] = b[i] ∧ a.drop (i + 1) = b.drop (i + 1) := by
      rw [List.drop_eq_getElem_cons hi, List.drop_eq_getElem_cons hi', List.cons.injEq]
    by_cases hx : a[i] = b[i]
    · obtain ⟨c, hc⟩ := ih (i + 1) (ck + 3) (by omega)
      refine ⟨c, ?_⟩
      rw [evL_loop_n (s1 := ⟨[(2, .pt ⟨2, 0, 0⟩ 2 0 0), (3, .pt ⟨3, 0, 1⟩ 2 0 0), (5, iv ((i + 1 : Nat) : Int))], [(⟨3, 0, 1⟩, .box ty [iv lb, .t (il b)]), (⟨2, 0, 0⟩, .box ty [iv la, .t (il a)])], ck + 3⟩), hc]
      · simp only [h1, hx, true_and]
      · have hw : IntKind.i64.wrap ((i : Int) + 1) = (i : Int) + 1 := wrap_id (by omega) (by omega)
        simp [f31l0e, hi, hi', hx, hw]
    · refine ⟨ck + 3, ?_⟩
      have hb : (a[i] != b[i]) = true := by simp [hx]
      rw [evL_loop, if_neg (fun h => hx (h1.1 h).1)]
      simp [f31l0e, hi, hi', hb]

theorem wsame_ret (la lb : Int) (a b : List Int) (hl : a.length ≤ 1000000) : RetT cfg 31 [.ag [iv la, .t (il a)], .ag [iv lb, .t (il b)]] (bv (decide (la = lb ∧ a = b))) := by
  refine RetT.of ?_
  rw [runL_pf (fn := f31) rfl rfl]
  by_cases h0 : la = lb
  · subst h0
    have h0b : (la != la) = false := by simp
    by_cases hab : a.length = b.length
    · obtain ⟨c, hc⟩ := wsame_loop la la a b 44 hl hab a.length 0 3 (by omega)
      have hlb : ((a.length : Int) != (b.length : Int)) = false := by simp [hab]
      simp only [List.drop_zero, il, iv, bv, Int.natCast_zero] at hc
      by_cases hx : a = b
      · rw [if_pos hx] at hc
        subst hx
        simp [h0b, hlb, hc]
      · rw [if_neg hx] at hc
        simp [h0b, hlb, hc, hx]
    · have h1 : ¬ a = b := fun e => hab (by rw [e])
      have hb : ((a.length : Int) != (b.length : Int)) = true := by simp; omega
      simp [h0b, hb, h1]
  · have h0b : (la != lb) = true := by simp [h0]
    simp [h0b, h0]
end Go.Proofs.Ytfclnkhhabiheaa.Pv
