/- What crc.Sum and the document's Sum tell: both are the plain sum. -/
import Derived.Test.YtccnadleegcobaaPCrc
set_option linter.unusedVariables false
set_option linter.unusedSimpArgs false
namespace Go.Proofs.Ytccnadleegcobaa.Pv
open Go Go.Pev

theorem bytesT_get {s : List UInt8} {i : Nat} (h : i < s.length) : (bytesT s)[i]? = some [.i .u8 s[i].toNat] := by
  simp [bytesT, h]
theorem crcL_drop {s : List UInt8} {i : Nat} (c : B32) (h : i < s.length) : crcL c (s.drop i) = crcL (crcByte c s[i]) (s.drop (i + 1)) := by
  rw [List.drop_eq_getElem_cons h]; rfl

theorem crc_bits (s : List UInt8) (i : Nat) : ∀ (k j : Nat) (c : B32) (ck : Nat), j + k = 8 → ∃ ck', evL cfg (.loop f19l0) ⟨[(3, .t (.i .u32 (c.toNat : Int))), (8, .ow ⟨8, 2, 1⟩ 1 0 s.length), (9, iv s.length), (10, iv i), (18, iv j)], [(⟨8, 2, 1⟩, .row 5 1 (bytesT s) false)], ck⟩ =
    some (.exit 2, ⟨[(3, .t (.i .u32 ((crcK k c).toNat : Int))), (8, .ow ⟨8, 2, 1⟩ 1 0 s.length), (9, iv s.length), (10, iv i), (18, iv 8), (19, bv false)], [(⟨8, 2, 1⟩, .row 5 1 (bytesT s) false)], ck'⟩) := by
  intro k
  induction k with
  | zero =>
    intro j c ck h
    obtain rfl : j = 8 := by omega
    refine ⟨ck + 1, ?_⟩
    rw [evL_loop]
    simp only [crcK]
    generalize c.toNat = n
    simp [f19l0e]
  | succ k ih =>
    intro j c ck h
    have hj : (j : Int) < 8 := by omega
    have hw : IntKind.i64.wrap ((j : Int) + 1) = (j : Int) + 1 := wrap_id (by omega) (by omega)
    obtain ⟨o, m, p, f1, f2, f3, f4⟩ := crc_ops c
    obtain ⟨ck', hc⟩ := ih (j + 1) (crcBit c) (ck + 5) (by omega)
    refine ⟨ck', ?_⟩
    show _ = some (Ex.exit 2, (⟨[(3, .t (.i .u32 ((crcK k (crcBit c)).toNat : Int))), (8, .ow ⟨8, 2, 1⟩ 1 0 s.length), (9, iv s.length), (10, iv i), (18, iv 8), (19, bv false)], [(⟨8, 2, 1⟩, .row 5 1 (bytesT s) false)], ck'⟩ : St))
    rw [← hc, evL_loop_n]
    generalize c.toNat = n at *
    generalize (crcBit c).toNat = n' at *
    simp [f19l0e, hj, hw, f1, f2, f3, f4, -bin_and, -bin_shr, -bin_mul, -bin_xor]

theorem crc_bytes (s : List UInt8) (hl : s.length ≤ 1000000) : ∀ (k i : Nat) (c : B32) (ck : Nat), i + k = s.length → ∃ ck', evL cfg (.loop f19l1) ⟨[(3, .t (.i .u32 (c.toNat : Int))), (8, .ow ⟨8, 2, 1⟩ 1 0 s.length), (9, iv s.length), (10, iv i)], [(⟨8, 2, 1⟩, .row 5 1 (bytesT s) false)], ck⟩ =
    some (.exit 0, ⟨[(3, .t (.i .u32 ((crcL c (s.drop i)).toNat : Int))), (8, .ow ⟨8, 2, 1⟩ 1 0 s.length), (9, iv s.length), (10, iv s.length), (11, bv false)], [(⟨8, 2, 1⟩, .row 5 1 (bytesT s) false)], ck'⟩) := by
  intro k
  induction k with
  | zero =>
    intro i c ck h
    obtain rfl : i = s.length := by omega
    refine ⟨ck + 1, ?_⟩
    rw [evL_loop, List.drop_length]
    simp only [crcL]
    generalize c.toNat = n
    simp [f19l1e]
  | succ k ih =>
    intro i c ck h
    have hi : i < s.length := by omega
    have hw : IntKind.i64.wrap ((i : Int) + 1) = (i : Int) + 1 := wrap_id (by omega) (by omega)
    have hbb := s[i].toNat_lt
    have hwb : IntKind.u32.wrap (s[i].toNat : Int) = ((BitVec.ofNat 32 s[i].toNat).toNat : Int) := by
      rw [wrapN (by omega), BitVec.toNat_ofNat, Nat.mod_eq_of_lt (by omega)]
    have hx := xor_u32 c (BitVec.ofNat 32 s[i].toNat)
    obtain ⟨c1, h1⟩ := crc_bits s i 8 0 (c ^^^ BitVec.ofNat 32 s[i].toNat) (ck + 4) (by omega)
    obtain ⟨ck', hc⟩ := ih (i + 1) (crcByte c s[i]) (c1 + 1) (by omega)
    refine ⟨ck', ?_⟩
    rw [crcL_drop c hi, ← hc, evL_loop_n]
    have hbt := bytesT_get hi
    simp only [crcByte] at hc ⊢
    simp only [iv, bv, Int.natCast_zero] at h1
    generalize bytesT s = row at *
    generalize (crcK 8 (c ^^^ BitVec.ofNat 32 s[i].toNat)).toNat = n2 at *
    generalize (c ^^^ BitVec.ofNat 32 s[i].toNat).toNat = n1 at *
    generalize (BitVec.ofNat 32 s[i].toNat).toNat = n0 at *
    generalize c.toNat = n at *
    generalize s[i].toNat = b at *
    simp [f19l1e, hi, hw, hbt, hwb, hx, h1, -bin_xor]

theorem crc_ret (s : List UInt8) (hl : s.length ≤ 1000000) : RetT cfg 19 [.t (.s s)] (iv (crcI s)) := by
  refine RetT.of ?_
  rw [runL_pf (fn := f19) rfl rfl]
  obtain ⟨ck', hc⟩ := crc_bytes s hl s.length 0 4294967295#32 3 (by omega)
  have hx := xor_u32 (crcL 4294967295#32 s) 4294967295#32
  have hlt := (crcL 4294967295#32 s ^^^ 4294967295#32).isLt
  have hw : IntKind.i64.wrap ((crcL 4294967295#32 s ^^^ 4294967295#32).toNat : Int) = ((crcL 4294967295#32 s ^^^ 4294967295#32).toNat : Int) := wrap_id (by omega) (by omega)
  have hb : s.length ≤ 140737488355328 := by omega
  rw [List.drop_zero] at hc
  simp only [crcI]
  have e32 : (((4294967295#32 : B32).toNat : Nat) : Int) = 4294967295 := rfl
  rw [e32] at hc hx
  simp only [iv, bv, Int.natCast_zero] at hc hx
  generalize (crcL 4294967295#32 s ^^^ 4294967295#32).toNat = n1 at *
  generalize (crcL 4294967295#32 s).toNat = n0 at *
  have hlb : (bytesT s).length = s.length := by simp [bytesT]
  simp [hb, hc, hx, hw, -bin_xor]
end Go.Proofs.Ytccnadleegcobaa.Pv
