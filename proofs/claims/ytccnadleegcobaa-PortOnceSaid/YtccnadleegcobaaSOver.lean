/- What the document's over and Sum of the layer 6 tell. -/
import Derived.Test.YtccnadleegcobaaSCrc
set_option linter.unusedVariables false
set_option linter.unusedSimpArgs false
namespace Go.Proofs.Ytccnadleegcobaa.Pv
open Go Go.Pev

theorem xor_rec (a b : Nat) : a ^^^ b = 2 * ((a / 2) ^^^ (b / 2)) + (if a % 2 = b % 2 then 0 else 1) := by
  have h1 : (a ^^^ b) / 2 = (a / 2) ^^^ (b / 2) := Nat.xor_div_two
  have h2 : (a ^^^ b) % 2 = (if a % 2 = b % 2 then 0 else 1) := by
    have h := Nat.testBit_xor a b 0
    simp only [Nat.testBit_zero] at h
    rcases Nat.mod_two_eq_zero_or_one a with x | x <;> rcases Nat.mod_two_eq_zero_or_one b with y | y <;> rcases Nat.mod_two_eq_zero_or_one (a ^^^ b) with z | z <;> rw [x, y, z] at h <;> rw [x, y, z] <;> revert h <;> decide
  rw [← h1, ← h2]; omega

theorem odd_xor (c : B32) : (crcBit c).toNat = if c.toNat % 2 = 1 then (c.toNat / 2) ^^^ 3988292384 else c.toNat / 2 := by
  unfold crcBit
  split
  · rw [BitVec.toNat_xor, shr_toNat]; rfl
  · rw [BitVec.xor_zero, shr_toNat]

end Go.Proofs.Ytccnadleegcobaa.Pv
