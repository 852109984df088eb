/- What the document's over and Sum of the layer 6 tell. -/
import Derived.Test.YtfclnkhhabiheaaSCrc
set_option linter.unusedVariables false
set_option linter.unusedSimpArgs false
namespace Go.Proofs.Ytfclnkhhabiheaa.Pv
open Go Go.Pev

theorem xor_rec (a b : Nat) : a ^^^ b = 2 * ((a / 2) ^^^ (b / 2)) + (if a % 2 = b % 2 then 0 else 1) := by
  have h1 : (a ^^^ b) / 2 = (a / 2) ^^^ (b / 2) := Nat.xor_div_two
  have h2 : (a ^^^ b) % 2 = (if a % 2 = b % 2 then 0 else 1) := by
    have h := Nat.testBit_xor a b 0
    simp only [Nat.testBit_zero] at h
    rcases Nat.mod_two_eq_zero_or_one a with x | x <;> rcases Nat.mod_two_eq_zero_or_one b with y | y <;> rcases Nat.mod_two_eq_zero_or_one (a ^^^ b) with z | z <;> rw [x, y, z] at h <;> rw [x, y, z] <;> revert h <;> decide
  rw [← h1, ← h2]; omega

theorem over_loop : ∀ (k a b out bit ck : Nat), a < 2 ^ k → b < 2 ^ k → 1 ≤ bit → bit * 2 ^ k ≤ 8589934592 → out < bit → ∃ bit' ck', evL cfg (.loop f39l0) ⟨[(0, iv a), (1, iv b), (5, iv out), (6, iv bit)], [], ck⟩ =
    some (.exit 0, ⟨[(0, iv 0), (1, iv 0), (5, iv ((out + bit * (a ^^^ b) : Nat) : Int)), (6, iv bit'), (12, bv false)], [], ck'⟩) := by
  intro k
  induction k with
  | zero =>
    intro a b out bit ck ha hb _ _ _
    obtain rfl : a = 0 := by omega
    obtain rfl : b = 0 := by omega
    refine ⟨bit, ck + 1, ?_⟩
    rw [evL_loop]
    simp [f39l0e]
  | succ k ih =>
    intro a b out bit ck ha hb hb1 h1 h2
    by_cases hz : a = 0 ∧ b = 0
    · obtain ⟨rfl, rfl⟩ := hz
      refine ⟨bit, ck + 1, ?_⟩
      rw [evL_loop]
      simp [f39l0e]
    · have hp : 0 < 2 ^ k := Nat.pos_of_ne_zero (by simp)
      have h1' : 2 * bit * 2 ^ k ≤ 8589934592 := by rw [Nat.pow_succ] at h1; rw [Nat.mul_comm 2 bit, Nat.mul_assoc, Nat.mul_comm 2]; exact h1
      have hbp : bit ≤ bit * 2 ^ k := Nat.le_mul_of_pos_right _ hp
      have e2 : bit * 2 ^ (k + 1) = bit * 2 ^ k + bit * 2 ^ k := by rw [Nat.pow_succ, ← Nat.mul_assoc]; omega
      have e3 : 2 * bit * 2 ^ k = bit * 2 ^ k + bit * 2 ^ k := by rw [Nat.mul_comm 2 bit, Nat.mul_assoc, Nat.mul_comm 2, ← Nat.mul_assoc]; omega
      rw [e2] at h1
      have ha2 : a / 2 < 2 ^ k := by rw [Nat.pow_succ] at ha; omega
      have hb2 : b / 2 < 2 ^ k := by rw [Nat.pow_succ] at hb; omega
      have hkb : 2 ^ k ≤ bit * 2 ^ k := Nat.le_mul_of_pos_left _ hb1
      have hpk : 2 ^ (k + 1) = 2 ^ k + 2 ^ k := by rw [Nat.pow_succ]; omega
      obtain ⟨am, ham⟩ : ∃ am : Nat, am = a % 2 := ⟨_, rfl⟩
      obtain ⟨bm, hbm⟩ : ∃ bm : Nat, bm = b % 2 := ⟨_, rfl⟩
      obtain ⟨aq, haq⟩ : ∃ aq : Nat, aq = a / 2 := ⟨_, rfl⟩
      obtain ⟨bq, hbq⟩ : ∃ bq : Nat, bq = b / 2 := ⟨_, rfl⟩
      obtain ⟨tb, htb⟩ : ∃ tb : Nat, tb = 2 * bit := ⟨_, rfl⟩
      have hwb : IntKind.i64.wrap (2 * (bit : Int)) = (tb : Int) := by rw [wrap_id (by omega) (by omega)]; omega
      have t1 : (a : Int).tmod 2 = (am : Int) := by rw [ham, Int.tmod_eq_emod_of_nonneg (by omega)]; rfl
      have t2 : (b : Int).tmod 2 = (bm : Int) := by rw [hbm, Int.tmod_eq_emod_of_nonneg (by omega)]; rfl
      have t3 : IntKind.i64.wrap ((a : Int) / 2) = (aq : Int) := by rw [wrap_id (by omega) (by omega)]; omega
      have t4 : IntKind.i64.wrap ((b : Int) / 2) = (bq : Int) := by rw [wrap_id (by omega) (by omega)]; omega
      have hx := xor_rec a b
      rw [← ham, ← hbm, ← haq, ← hbq] at hx
      rw [← haq] at ha2
      rw [← hbq] at hb2
      rw [← htb] at h1' e3
      have hg : decide (0 < a) = true ∨ (decide (0 < a) = false ∧ decide (0 < b) = true) := by
        rcases Nat.eq_zero_or_pos a with h | h
        · right; exact ⟨decide_eq_false (by omega), decide_eq_true (by omega)⟩
        · left; exact decide_eq_true h
      by_cases hab : am = bm
      · rw [if_pos hab] at hx
        obtain ⟨bit', ck', hc⟩ := ih aq bq out tb (ck + 3) ha2 hb2 (by omega) h1' (by omega)
        refine ⟨bit', ck', ?_⟩
        have e4 : out + bit * (a ^^^ b) = out + tb * (aq ^^^ bq) := by
          rw [hx, htb, Nat.add_zero, ← Nat.mul_assoc, Nat.mul_comm bit 2]
        rw [e4, ← hc, evL_loop_n]
        have hne : ((am : Int) != (bm : Int)) = false := by simp; omega
        rcases hg with g1 | ⟨g1, g2⟩
        · simp [f39l0e, g1, t1, t2, t3, t4, hwb, hne]
        · simp [f39l0e, g1, g2, t1, t2, t3, t4, hwb, hne]
      · rw [if_neg hab] at hx
        obtain ⟨ob, hob⟩ : ∃ ob : Nat, ob = out + bit := ⟨_, rfl⟩
        obtain ⟨bit', ck', hc⟩ := ih aq bq ob tb (ck + 4) ha2 hb2 (by omega) h1' (by omega)
        refine ⟨bit', ck', ?_⟩
        have e4 : out + bit * (a ^^^ b) = ob + tb * (aq ^^^ bq) := by
          rw [hx, htb, hob, Nat.mul_add, Nat.mul_one, ← Nat.mul_assoc, Nat.mul_comm bit 2]; omega
        rw [e4, ← hc, evL_loop_n]
        have hne : ((am : Int) != (bm : Int)) = true := by simp; omega
        have hwo : IntKind.i64.wrap ((out : Int) + (bit : Int)) = (ob : Int) := by rw [wrap_id (by omega) (by omega)]; omega
        rcases hg with g1 | ⟨g1, g2⟩
        · simp [f39l0e, g1, t1, t2, t3, t4, hwb, hne, hwo]
        · simp [f39l0e, g1, g2, t1, t2, t3, t4, hwb, hne, hwo]

theorem over_ret (a b : Nat) (ha : a < 4294967296) (hb : b < 4294967296) : RetT cfg 39 [iv a, iv b] (iv ((a ^^^ b : Nat) : Int)) := by
  obtain ⟨bit', c, hc⟩ := over_loop 32 a b 0 1 2 ha hb (by omega) (by omega) (by omega)
  refine RetT.of ?_
  rw [runL_pf (fn := f39) rfl rfl]
  rw [Nat.zero_add, Nat.one_mul] at hc
  generalize a ^^^ b = x at *
  simp only [iv, bv, Int.natCast_zero, Int.natCast_one] at hc
  simp [hc]

theorem odd_xor (c : B32) : (crcBit c).toNat = if c.toNat % 2 = 1 then (c.toNat / 2) ^^^ 3988292384 else c.toNat / 2 := by
  unfold crcBit
  split
  · rw [BitVec.toNat_xor, shr_toNat]; rfl
  · rw [BitVec.xor_zero, shr_toNat]

theorem rsum_bits (s : List UInt8) (i : Nat) : ∀ (k j : Nat) (c : B32) (ck : Nat), j + k = 8 → ∃ ck', evL cfg (.loop f28l0) ⟨[(0, .t (.s s)), (3, iv (c.toNat : Int)), (4, iv i), (5, iv j)], [], ck⟩ =
    some (.exit 2, ⟨[(0, .t (.s s)), (3, iv ((crcK k c).toNat : Int)), (4, iv i), (5, iv 8), (20, bv false)], [], ck'⟩) := by
  intro k
  induction k with
  | zero =>
    intro j c ck h
    obtain rfl : j = 8 := by omega
    refine ⟨ck + 1, ?_⟩
    rw [evL_loop]
    simp only [crcK]
    generalize c.toNat = n
    simp [f28l0e]
  | succ k ih =>
    intro j c ck h
    have hj : (j : Int) < 8 := by omega
    have hw : IntKind.i64.wrap ((j : Int) + 1) = (j : Int) + 1 := wrap_id (by omega) (by omega)
    have hlt := c.isLt
    have hxo := odd_xor c
    have hov := fun s k => callEv_tr (C := cfg) (over_ret (c.toNat / 2) 3988292384 (by omega) (by omega)) rfl rfl rfl s k
    show ∃ ck', _ = some (Ex.exit 2, (⟨[(0, .t (.s s)), (3, iv ((crcK k (crcBit c)).toNat : Int)), (4, iv i), (5, iv 8), (20, bv false)], [], ck'⟩ : St))
    rcases Nat.mod_two_eq_zero_or_one c.toNat with hm | hm
    · obtain ⟨ck', hc⟩ := ih (j + 1) (crcBit c) (ck + 5) (by omega)
      refine ⟨ck', ?_⟩
      rw [← hc, evL_loop_n]
      rw [if_neg (by omega)] at hxo
      generalize (crcBit c).toNat = n' at *
      generalize c.toNat = n at *
      have t1 : (n : Int).tmod 2 = 0 := by rw [Int.tmod_eq_emod_of_nonneg (by omega)]; omega
      have t3 : IntKind.i64.wrap ((n : Int) / 2) = (n' : Int) := by rw [wrap_id (by omega) (by omega)]; omega
      simp [f28l0e, hj, hw, t1, t3]
    · obtain ⟨ck', hc⟩ := ih (j + 1) (crcBit c) (ck + 6) (by omega)
      refine ⟨ck', ?_⟩
      rw [← hc, evL_loop_n]
      rw [if_pos hm] at hxo
      rw [← hxo] at hov
      generalize (crcBit c).toNat = n' at *
      generalize c.toNat = n at *
      have t1 : (n : Int).tmod 2 = 1 := by rw [Int.tmod_eq_emod_of_nonneg (by omega)]; omega
      obtain ⟨q, hq⟩ : ∃ q : Nat, q = n / 2 := ⟨_, rfl⟩
      have t3 : IntKind.i64.wrap ((n : Int) / 2) = (q : Int) := by rw [wrap_id (by omega) (by omega)]; omega
      rw [← hq] at hov
      simp only [iv] at hov
      have e32 : ((3988292384 : Nat) : Int) = 3988292384 := rfl
      rw [e32] at hov
      simp [f28l0e, hj, hw, t1, t3, hov]

theorem rsum_bytes (s : List UInt8) (hl : s.length ≤ 1000000) : ∀ (k i : Nat) (c : B32) (ck : Nat), i + k = s.length → ∃ ck', evL cfg (.loop f28l1) ⟨[(0, .t (.s s)), (3, iv (c.toNat : Int)), (4, iv i)], [], ck⟩ =
    some (.exit 0, ⟨[(0, .t (.s s)), (3, iv ((crcL c (s.drop i)).toNat : Int)), (4, iv s.length), (10, bv false)], [], ck'⟩) := by
  intro k
  induction k with
  | zero =>
    intro i c ck h
    obtain rfl : i = s.length := by omega
    refine ⟨ck + 1, ?_⟩
    rw [evL_loop, List.drop_length]
    simp only [crcL]
    generalize c.toNat = n
    simp [f28l1e]
  | succ k ih =>
    intro i c ck h
    have hi : i < s.length := by omega
    have hw : IntKind.i64.wrap ((i : Int) + 1) = (i : Int) + 1 := wrap_id (by omega) (by omega)
    have hbb := s[i].toNat_lt
    have hlt := c.isLt
    have hov := fun st k => callEv_tr (C := cfg) (over_ret c.toNat s[i].toNat (by omega) (by omega)) rfl rfl rfl st k
    have hxn : (c ^^^ BitVec.ofNat 32 s[i].toNat).toNat = c.toNat ^^^ s[i].toNat := by
      rw [BitVec.toNat_xor, BitVec.toNat_ofNat, Nat.mod_eq_of_lt (by omega)]
    rw [← hxn] at hov
    have hwb : IntKind.i64.wrap (s[i].toNat : Int) = (s[i].toNat : Int) := wrap_id (by omega) (by omega)
    have hsi : s[i]? = some s[i] := List.getElem?_eq_getElem hi
    obtain ⟨c1, h1⟩ := rsum_bits s i 8 0 (c ^^^ BitVec.ofNat 32 s[i].toNat) (ck + 3) (by omega)
    obtain ⟨ck', hc⟩ := ih (i + 1) (crcByte c s[i]) (c1 + 1) (by omega)
    refine ⟨ck', ?_⟩
    rw [crcL_drop c hi, ← hc, evL_loop_n]
    simp only [crcByte] at hc ⊢
    simp only [iv, bv, Int.natCast_zero] at h1 hov
    generalize (crcK 8 (c ^^^ BitVec.ofNat 32 s[i].toNat)).toNat = n2 at *
    generalize (c ^^^ BitVec.ofNat 32 s[i].toNat).toNat = n1 at *
    generalize c.toNat = n at *
    simp [f28l1e, hi, hw, hwb, hov, h1]

theorem rsum_ret (s : List UInt8) (hl : s.length ≤ 1000000) : RetT cfg 28 [.t (.s s)] (iv (crcI s)) := by
  refine RetT.of ?_
  rw [runL_pf (fn := f28) rfl rfl]
  obtain ⟨ck', hc⟩ := rsum_bytes s hl s.length 0 4294967295#32 3 (by omega)
  have hlt := (crcL 4294967295#32 s).isLt
  have hov := fun st k => callEv_tr (C := cfg) (over_ret (crcL 4294967295#32 s).toNat 4294967295 (by omega) (by omega)) rfl rfl rfl st k
  have hxn : (crcL 4294967295#32 s ^^^ 4294967295#32).toNat = (crcL 4294967295#32 s).toNat ^^^ 4294967295 := by rw [BitVec.toNat_xor]; rfl
  rw [← hxn] at hov
  rw [List.drop_zero] at hc
  simp only [crcI]
  have e32 : (((4294967295#32 : B32).toNat : Nat) : Int) = 4294967295 := rfl
  have e33 : ((4294967295 : Nat) : Int) = 4294967295 := rfl
  rw [e32] at hc
  rw [e33] at hov
  simp only [iv, bv, Int.natCast_zero] at hc hov
  generalize (crcL 4294967295#32 s ^^^ 4294967295#32).toNat = n1 at *
  generalize (crcL 4294967295#32 s).toNat = n0 at *
  simp [hc, hov]
end Go.Proofs.Ytfclnkhhabiheaa.Pv
