/- Equal links, equal ports. -/
import Derived.Test.YtfclnkhhabiheaaSRef1
set_option linter.unusedVariables false
set_option linter.unusedSimpArgs false
namespace Go.Proofs.Ytfclnkhhabiheaa.Pv
open Go Go.Pev

theorem lsame_loop (na nb : Int) (a b : List Fr) (hl : a.length ≤ 1000000) (hab : a.length = b.length) : ∀ (k i ck : Nat), i + k = a.length → ∃ c, evL cfg (.loop f30l0) ⟨[(2, .pt ⟨2, 0, 0⟩ 2 0 0), (3, .pt ⟨3, 0, 1⟩ 2 0 0), (5, iv i)], [(⟨3, 0, 1⟩, .box 43 [iv nb, .t (fl b)]), (⟨2, 0, 0⟩, .box 43 [iv na, .t (fl a)])], ck⟩ =
    some (if a.drop i = b.drop i then (.exit 0, ⟨[(2, .pt ⟨2, 0, 0⟩ 2 0 0), (3, .pt ⟨3, 0, 1⟩ 2 0 0), (5, iv a.length), (24, bv false)], [(⟨3, 0, 1⟩, .box 43 [iv nb, .t (fl b)]), (⟨2, 0, 0⟩, .box 43 [iv na, .t (fl a)])], c⟩) else (.ret, ⟨[(4, bv false)], [], c⟩)) := by
  intro k
  induction k with
  | zero =>
    intro i ck h
    obtain rfl : i = a.length := by omega
    refine ⟨ck + 1, ?_⟩
    have h1 : a.drop a.length = b.drop a.length := by rw [List.drop_length, hab, List.drop_length]
    rw [evL_loop, if_pos h1]
    simp [f30l0e, fl]
  | succ k ih =>
    intro i ck h
    have hi : i < a.length := by omega
    have hi' : i < b.length := by omega
    have h1 : a.drop i = b.drop i ↔ a[i] = b[i] ∧ a.drop (i + 1) = b.drop (i + 1) := by
      rw [List.drop_eq_getElem_cons hi, List.drop_eq_getElem_cons hi', List.cons.injEq]
    by_cases hx : a[i] = b[i]
    · obtain ⟨c, hc⟩ := ih (i + 1) (ck + 3) (by omega)
      refine ⟨c, ?_⟩
      rw [evL_loop_n (s1 := ⟨[(2, .pt ⟨2, 0, 0⟩ 2 0 0), (3, .pt ⟨3, 0, 1⟩ 2 0 0), (5, iv ((i + 1 : Nat) : Int))], [(⟨3, 0, 1⟩, .box 43 [iv nb, .t (fl b)]), (⟨2, 0, 0⟩, .box 43 [iv na, .t (fl a)])], ck + 3⟩), hc]
      · simp only [h1, hx, true_and]
      · have hw : IntKind.i64.wrap ((i : Int) + 1) = (i : Int) + 1 := wrap_id (by omega) (by omega)
        simp [f30l0e, fl, hi, hi', hx, hw, over, beqS, cellsEq]
    · refine ⟨ck + 3, ?_⟩
      rw [evL_loop, if_neg (fun h => hx (h1.1 h).1)]
      by_cases e1 : a[i].1 = b[i].1
      · have e2 : ¬ a[i].2 = b[i].2 := fun e2 => hx (Prod.ext e1 e2)
        simp [f30l0e, fl, hi, hi', e1, e2, over, beqS, cellsEq]
      · simp [f30l0e, fl, hi, hi', e1, over, beqS, cellsEq]

theorem lsame_ret (na nb : Int) (a b : List Fr) (hl : a.length ≤ 1000000) : RetT cfg 30 [.ag [iv na, .t (fl a)], .ag [iv nb, .t (fl b)]] (bv (decide (na = nb ∧ a = b))) := by
  refine RetT.of ?_
  rw [runL_pf (fn := f30) rfl rfl]
  by_cases h0 : na = nb
  · subst h0
    have h0b : (na != na) = false := by simp
    by_cases hab : a.length = b.length
    · obtain ⟨c, hc⟩ := lsame_loop na na a b hl hab a.length 0 3 (by omega)
      have hlb : ((a.length : Int) != (b.length : Int)) = false := by simp [hab]
      simp only [List.drop_zero, fl, iv, bv, Int.natCast_zero] at hc
      by_cases hx : a = b
      · rw [if_pos hx] at hc
        subst hx
        simp [fl, h0b, hlb, hc]
      · rw [if_neg hx] at hc
        simp [fl, h0b, hlb, hc, hx]
    · have h1 : ¬ a = b := fun e => hab (by rw [e])
      have hb : ((a.length : Int) != (b.length : Int)) = true := by simp; omega
      simp [fl, h0b, hb, h1]
  · have h0b : (na != nb) = true := by simp [h0]
    simp [fl, h0b, h0]

theorem psame_ret (p r : Prt) (hl : p.q.length ≤ 1000000) (hs : p.seen.length ≤ 1000000) : RetT cfg 16 [prV p, prV r] (bv (decide (p = r))) := by
  obtain ⟨n1, q1, l1, s1⟩ := p
  obtain ⟨n2, q2, l2, s2⟩ := r
  have hA := fun s k => callEv_tr (C := cfg) (lsame_ret n1 n2 q1 q2 hl) rfl rfl rfl s k
  have hB := fun s k => callEv_tr (C := cfg) (wsame_ret l1 l2 s1 s2 hs) rfl rfl rfl s k
  have hBq := fun hp => callQ_tr (C := cfg) (wsame_ret l1 l2 s1 s2 hs) rfl hp
  have he : decide ((⟨n1, q1, l1, s1⟩ : Prt) = ⟨n2, q2, l2, s2⟩) = (decide (n1 = n2 ∧ q1 = q2) && decide (l1 = l2 ∧ s1 = s2)) := by
    rw [Bool.eq_iff_iff]
    simp only [Prt.mk.injEq, decide_eq_true_eq, Bool.and_eq_true]
    constructor
    · rintro ⟨a, b, c, d⟩; exact ⟨⟨a, b⟩, c, d⟩
    · rintro ⟨⟨a, b⟩, c, d⟩; exact ⟨a, b, c, d⟩
  rw [he]
  refine RetT.of ?_
  unfold prV
  rw [runL_pf (fn := f16) rfl rfl]
  generalize decide (n1 = n2 ∧ q1 = q2) = b1 at *
  generalize decide (l1 = l2 ∧ s1 = s2) = b2 at *
  simp only [fl, il, iv, bv] at hA hB hBq
  cases b1 <;> simp [fl, il, hA, hB, hBq]
end Go.Proofs.Ytfclnkhhabiheaa.Pv
