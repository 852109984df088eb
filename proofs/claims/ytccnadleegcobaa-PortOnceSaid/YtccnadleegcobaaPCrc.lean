/- The sum over bytes, plainly; and that one byte turned turns it. -/
import Derived.Test.YtccnadleegcobaaBase
set_option linter.unusedVariables false
set_option linter.unusedSimpArgs false
namespace Go.Proofs.Ytccnadleegcobaa.Pv
open Go Go.Pev

abbrev B32 := BitVec 32
def crcBit (c : B32) : B32 := (c >>> 1) ^^^ (if c.toNat % 2 = 1 then 3988292384#32 else 0#32)
def crcK : Nat → B32 → B32
  | 0, c => c
  | k + 1, c => crcK k (crcBit c)
def crcByte (c : B32) (b : UInt8) : B32 := crcK 8 (c ^^^ BitVec.ofNat 32 b.toNat)
def crcL : B32 → List UInt8 → B32
  | c, [] => c
  | c, b :: s => crcL (crcByte c b) s
def crcI (s : List UInt8) : Int := ((crcL 4294967295#32 s ^^^ 4294967295#32).toNat : Int)

theorem ofInt_nat (c : B32) : BitVec.ofInt 32 (c.toNat : Int) = c := by simp
theorem wrap32 (c : B32) : IntKind.u32.wrap (c.toNat : Int) = (c.toNat : Int) := IntWalk.u32_in _ (by have := c.isLt; omega)
theorem wrapN {n : Nat} (h : n < 4294967296) : IntKind.u32.wrap (n : Int) = (n : Int) := IntWalk.u32_in _ (by omega)
theorem ofIntN (n : Nat) : BitVec.ofInt 32 (n : Int) = BitVec.ofNat 32 n := by simp
theorem u32bits : IntKind.u32.bits = 32 := rfl
theorem shr_toNat (c : B32) : (c >>> 1).toNat = c.toNat / 2 := by
  rw [BitVec.toNat_ushiftRight, Nat.shiftRight_eq_div_pow]
theorem xor_u32 (c d : B32) : bin .xor (.t (.i .u32 (c.toNat : Int))) (.t (.i .u32 (d.toNat : Int))) = some (.t (.i .u32 ((c ^^^ d).toNat : Int))) := by
  rw [bin_xor]
  show some (V.t (.i .u32 (IntKind.u32.wrap ((BitVec.ofInt 32 (c.toNat : Int) ^^^ BitVec.ofInt 32 (d.toNat : Int)).toNat : Int)))) = _
  rw [ofInt_nat, ofInt_nat, wrap32]

theorem crc_ops (c : B32) : ∃ o m p : Nat,
    bin .and (.t (.i .u32 (c.toNat : Int))) (.t (.i .u32 1)) = some (.t (.i .u32 (o : Int))) ∧
    bin .shr (.t (.i .u32 (c.toNat : Int))) (.t (.i .u64 1)) = some (.t (.i .u32 (m : Int))) ∧
    bin .mul (.t (.i .u32 3988292384)) (.t (.i .u32 (o : Int))) = some (.t (.i .u32 (p : Int))) ∧
    bin .xor (.t (.i .u32 (m : Int))) (.t (.i .u32 (p : Int))) = some (.t (.i .u32 ((crcBit c).toNat : Int))) := by
  have hlt := c.isLt
  refine ⟨c.toNat % 2, c.toNat / 2, (if c.toNat % 2 = 1 then 3988292384#32 else 0#32 : B32).toNat, ?_, ?_, ?_, ?_⟩
  · rw [bin_and]
    show some (V.t (.i .u32 (IntKind.u32.wrap ((BitVec.ofInt 32 (c.toNat : Int) &&& BitVec.ofInt 32 1).toNat : Int)))) = _
    rw [ofInt_nat, show BitVec.ofInt 32 1 = 1#32 from rfl, BitVec.toNat_and, show (1#32 : B32).toNat = 1 from rfl, Nat.and_one_is_mod, wrapN (by omega)]
  · rw [bin_shr]
    show (if (1 : Int) < 0 then none else some (V.t (.i .u32 (Int.fdiv (c.toNat : Int) (2 ^ (min (1 : Int).toNat 32)))))) = _
    rw [if_neg (by omega), Int.fdiv_eq_ediv_of_nonneg _ (by decide)]
    rfl
  · rw [bin_mul]
    rcases Nat.mod_two_eq_zero_or_one c.toNat with h | h
    · rw [h]; rfl
    · rw [h]; rfl
  · have := xor_u32 (c >>> 1) (if c.toNat % 2 = 1 then 3988292384#32 else 0#32)
    rw [shr_toNat] at this
    exact this

/-! ### one byte turned -/
theorem crcBit_inj {c d : B32} (h : crcBit c = crcBit d) : c = d := by
  have hc := c.isLt
  have hd := d.isLt
  have hm : c.toNat % 2 = d.toNat % 2 := by
    have h31 := congrArg (fun x : B32 => x.getLsbD 31) h
    simp only [crcBit, BitVec.getLsbD_xor, BitVec.getLsbD_ushiftRight] at h31
    have z1 : c.getLsbD (1 + 31) = false := BitVec.getLsbD_of_ge _ _ (by omega)
    have z2 : d.getLsbD (1 + 31) = false := BitVec.getLsbD_of_ge _ _ (by omega)
    rw [z1, z2] at h31
    rcases Nat.mod_two_eq_zero_or_one c.toNat with a | a <;> rcases Nat.mod_two_eq_zero_or_one d.toNat with b | b <;> rw [a, b] at h31 ⊢ <;> revert h31 <;> decide
  have hs : c >>> 1 = d >>> 1 := by
    unfold crcBit at h
    rw [hm] at h
    have := congrArg (fun x : B32 => x ^^^ (if d.toNat % 2 = 1 then 3988292384#32 else 0#32)) h
    simpa [BitVec.xor_assoc] using this
  have hq := congrArg BitVec.toNat hs
  rw [shr_toNat, shr_toNat] at hq
  exact BitVec.eq_of_toNat_eq (by omega)
theorem crcK_inj : ∀ (k : Nat) {c d : B32}, crcK k c = crcK k d → c = d
  | 0, _, _, h => h
  | k + 1, _, _, h => crcBit_inj (crcK_inj k h)
theorem xor_inj {c d x : B32} (h : c ^^^ x = d ^^^ x) : c = d := by
  have := congrArg (fun y : B32 => y ^^^ x) h
  simpa [BitVec.xor_assoc] using this
theorem crcByte_inj {c d : B32} {b : UInt8} (h : crcByte c b = crcByte d b) : c = d := xor_inj (crcK_inj 8 h)
theorem crcByte_ne {c : B32} {a b : UInt8} (h : crcByte c a = crcByte c b) : a = b := by
  have h1 := crcK_inj 8 h
  rw [BitVec.xor_comm c, BitVec.xor_comm c] at h1
  have h2 := congrArg BitVec.toNat (xor_inj h1)
  have ha := a.toNat_lt
  have hb := b.toNat_lt
  rw [BitVec.toNat_ofNat, BitVec.toNat_ofNat] at h2
  exact UInt8.toNat_inj.1 (by omega)
theorem crcL_inj : ∀ (s : List UInt8) {c d : B32}, crcL c s = crcL d s → c = d
  | [], _, _, h => h
  | b :: s, _, _, h => crcByte_inj (crcL_inj s h)
theorem crcL_set : ∀ (s : List UInt8) (c : B32) (i : Nat) (hi : i < s.length) (b : UInt8), crcL c (s.set i b) = crcL c s → b = s[i]
  | x :: s, c, 0, hi, b, h => by
    simp only [List.set_cons_zero, crcL] at h
    exact crcByte_ne (crcL_inj s h)
  | x :: s, c, i + 1, hi, b, h => by
    simp only [List.set_cons_succ, crcL] at h
    exact crcL_set s _ i (by simpa using hi) b h
theorem crcI_set {s : List UInt8} {i : Nat} (hi : i < s.length) {b : UInt8} (hb : b ≠ s[i]) : crcI (s.set i b) ≠ crcI s := by
  intro h
  unfold crcI at h
  have h1 : crcL 4294967295#32 (s.set i b) ^^^ 4294967295#32 = crcL 4294967295#32 s ^^^ 4294967295#32 := BitVec.eq_of_toNat_eq (by omega)
  exact hb (crcL_set s _ i hi b (xor_inj h1))
end Go.Proofs.Ytccnadleegcobaa.Pv
