/- What the functions of these laws tell (made by mergecom.py out of Base PCrc PPort SCrc SOver SPort1 SPort2 SClone SLink SLink2 SLink3 SContains SWin1 SSort SWin2 SWin3 SPort3 SPort4 SWin4 SPort5 WinP GLoop SAgain PTop SChunk1 SChunk2 SBld PFix SFix SVec SGate SChunk3 SChunk4 SGate2 SModel SSlots SParts SHolds SRight PRows SPlace SComb SLives PCut). -/
import Derived.Test.YtccnadleegcobaaGreatCfg
import Derived.Test.YtccnadleegcobaaGreatPrim5
import Derived.Lib.Join
set_option linter.unusedVariables false
set_option linter.unusedSimpArgs false
section
/- Rows of numbers. -/
namespace Go.Proofs.YtccnadleegcobaaGreat.Pv
open Go Go.Pev
/-- The cells of a row of numbers. -/
def cl (m : List Int) : List (List T) := m.map fun n => [.i .i64 n]
theorem cl_one (l : List Int) : ∀ c ∈ cl l, c.length = 1 := by
  intro c hc
  obtain ⟨n, _, rfl⟩ := List.mem_map.1 hc
  rfl

/-- Rows of numbers. -/
def gl (h : List (List Int)) : T := .l (h.map fun r => [.l (r.map fun n => [.i .i64 n])])
end Go.Proofs.YtccnadleegcobaaGreat.Pv
end

section
/- The sum over bytes, plainly; and that one byte turned turns it. -/
namespace Go.Proofs.YtccnadleegcobaaGreat.Pv
open Go Go.Pev

abbrev B32 := BitVec 32
def crcBit (c : B32) : B32 := (c >>> 1) ^^^ (if c.toNat % 2 = 1 then 3988292384#32 else 0#32)
def crcK : Nat → B32 → B32
  | 0, c => c
  | k + 1, c => crcK k (crcBit c)
def crcByte (c : B32) (b : UInt8) : B32 := crcK 8 (c ^^^ BitVec.ofNat 32 b.toNat)
def crcL : B32 → List UInt8 → B32
  | c, [] => c
  | c, b :: s => crcL (crcByte c b) s
def crcI (s : List UInt8) : Int := ((crcL 4294967295#32 s ^^^ 4294967295#32).toNat : Int)

theorem ofInt_nat (c : B32) : BitVec.ofInt 32 (c.toNat : Int) = c := by simp
theorem wrap32 (c : B32) : IntKind.u32.wrap (c.toNat : Int) = (c.toNat : Int) := IntWalk.u32_in _ (by have := c.isLt; omega)
theorem wrapN {n : Nat} (h : n < 4294967296) : IntKind.u32.wrap (n : Int) = (n : Int) := IntWalk.u32_in _ (by omega)
theorem shr_toNat (c : B32) : (c >>> 1).toNat = c.toNat / 2 := by
  rw [BitVec.toNat_ushiftRight, Nat.shiftRight_eq_div_pow]
theorem xor_u32 (c d : B32) : bin .xor (.t (.i .u32 (c.toNat : Int))) (.t (.i .u32 (d.toNat : Int))) = some (.t (.i .u32 ((c ^^^ d).toNat : Int))) := by
  rw [bin_xor]
  show some (V.t (.i .u32 (IntKind.u32.wrap ((BitVec.ofInt 32 (c.toNat : Int) ^^^ BitVec.ofInt 32 (d.toNat : Int)).toNat : Int)))) = _
  rw [ofInt_nat, ofInt_nat, wrap32]

theorem crc_ops (c : B32) : ∃ o m p : Nat,
    bin .and (.t (.i .u32 (c.toNat : Int))) (.t (.i .u32 1)) = some (.t (.i .u32 (o : Int))) ∧
    bin .shr (.t (.i .u32 (c.toNat : Int))) (.t (.i .u64 1)) = some (.t (.i .u32 (m : Int))) ∧
    bin .mul (.t (.i .u32 3988292384)) (.t (.i .u32 (o : Int))) = some (.t (.i .u32 (p : Int))) ∧
    bin .xor (.t (.i .u32 (m : Int))) (.t (.i .u32 (p : Int))) = some (.t (.i .u32 ((crcBit c).toNat : Int))) := by
  have hlt := c.isLt
  refine ⟨c.toNat % 2, c.toNat / 2, (if c.toNat % 2 = 1 then 3988292384#32 else 0#32 : B32).toNat, ?_, ?_, ?_, ?_⟩
  · rw [bin_and]
    show some (V.t (.i .u32 (IntKind.u32.wrap ((BitVec.ofInt 32 (c.toNat : Int) &&& BitVec.ofInt 32 1).toNat : Int)))) = _
    rw [ofInt_nat, show BitVec.ofInt 32 1 = 1#32 from rfl, BitVec.toNat_and, show (1#32 : B32).toNat = 1 from rfl, Nat.and_one_is_mod, wrapN (by omega)]
  · rw [bin_shr]
    show (if (1 : Int) < 0 then none else some (V.t (.i .u32 (Int.fdiv (c.toNat : Int) (2 ^ (min (1 : Int).toNat 32)))))) = _
    rw [if_neg (by omega), Int.fdiv_eq_ediv_of_nonneg _ (by decide)]
    rfl
  · rw [bin_mul]
    rcases Nat.mod_two_eq_zero_or_one c.toNat with h | h
    · rw [h]; rfl
    · rw [h]; rfl
  · have := xor_u32 (c >>> 1) (if c.toNat % 2 = 1 then 3988292384#32 else 0#32)
    rw [shr_toNat] at this
    exact this

/-! ### one byte turned -/
end Go.Proofs.YtccnadleegcobaaGreat.Pv
end

section
/- Packets, plainly. -/
namespace Go.Proofs.YtccnadleegcobaaGreat.Pv
open Go Go.Pev

def crcN (s : List UInt8) : Nat := (crcL 4294967295#32 s ^^^ 4294967295#32).toNat
theorem crcI_N (s : List UInt8) : crcI s = (crcN s : Int) := rfl
theorem crcN_lt (s : List UInt8) : crcN s < 4294967296 := (crcL 4294967295#32 s ^^^ 4294967295#32).isLt
def fourN (n : Nat) : List UInt8 := [UInt8.ofNat (n % 256), UInt8.ofNat (n / 256 % 256), UInt8.ofNat (n / 65536 % 256), UInt8.ofNat (n / 16777216 % 256)]
def fourD (a b c d : UInt8) : Nat := a.toNat + 256 * b.toNat + 65536 * c.toNat + 16777216 * d.toNat
theorem fourD_four (a b c d : UInt8) : fourN (fourD a b c d) = [a, b, c, d] := by
  have ha := a.toNat_lt
  have hb := b.toNat_lt
  have hc := c.toNat_lt
  have hd := d.toNat_lt
  unfold fourN fourD
  rw [show (a.toNat + 256 * b.toNat + 65536 * c.toNat + 16777216 * d.toNat) % 256 = a.toNat by omega,
    show (a.toNat + 256 * b.toNat + 65536 * c.toNat + 16777216 * d.toNat) / 256 % 256 = b.toNat by omega,
    show (a.toNat + 256 * b.toNat + 65536 * c.toNat + 16777216 * d.toNat) / 65536 % 256 = c.toNat by omega,
    show (a.toNat + 256 * b.toNat + 65536 * c.toNat + 16777216 * d.toNat) / 16777216 % 256 = d.toNat by omega]
  simp
theorem four_fourD {n : Nat} (h : n < 4294967296) : ∃ a b c d, fourN n = [a, b, c, d] ∧ fourD a b c d = n := by
  refine ⟨_, _, _, _, rfl, ?_⟩
  unfold fourD
  simp only [UInt8.toNat_ofNat', Nat.reducePow]
  omega
theorem fourN_len (n : Nat) : (fourN n).length = 4 := rfl
def packB (kind : UInt8) (seq : Nat) (text : List UInt8) : List UInt8 := (kind :: fourN seq ++ text) ++ fourN (crcN (kind :: fourN seq ++ text))
def packOk (kind : UInt8) (seq : Int) (text : List UInt8) : Prop := (kind = 68 ∨ (kind = 65 ∧ text = [])) ∧ 0 ≤ seq ∧ seq ≤ 2147483647
instance (kind : UInt8) (seq : Int) (text : List UInt8) : Decidable (packOk kind seq text) := by unfold packOk; exact inferInstance
/-- What a packet tells: the kind, the number, the text, and the error. -/
def unpackP (s : List UInt8) : UInt8 × Int × List UInt8 × Int :=
  if s.length < 9 then (0, 0, [], 2)
  else if s.drop (s.length - 4) ≠ fourN (crcN (s.take (s.length - 4))) then (0, 0, [], 9)
  else if packOk (s.getD 0 0) (fourD (s.getD 1 0) (s.getD 2 0) (s.getD 3 0) (s.getD 4 0)) ((s.take (s.length - 4)).drop 5) then (s.getD 0 0, fourD (s.getD 1 0) (s.getD 2 0) (s.getD 3 0) (s.getD 4 0), (s.take (s.length - 4)).drop 5, 0)
  else (0, 0, [], 2)

theorem body_is {s : List UInt8} (h : 9 ≤ s.length) : s.take (s.length - 4) = s.getD 0 0 :: fourN (fourD (s.getD 1 0) (s.getD 2 0) (s.getD 3 0) (s.getD 4 0)) ++ (s.take (s.length - 4)).drop 5 := by
  rw [fourD_four]
  match s, h with
  | a :: b :: c :: d :: e :: r, h =>
    have hk : (a :: b :: c :: d :: e :: r).length - 4 = (r.length - 4) + 5 := by simp at h ⊢; omega
    rw [hk]
    simp
/-- A packet whose sum is right is the packet of what it tells. -/
theorem pack_is {s : List UInt8} (h : 9 ≤ s.length) (hc : s.drop (s.length - 4) = fourN (crcN (s.take (s.length - 4)))) : packB (s.getD 0 0) (fourD (s.getD 1 0) (s.getD 2 0) (s.getD 3 0) (s.getD 4 0)) ((s.take (s.length - 4)).drop 5) = s := by
  unfold packB
  rw [← body_is h, ← hc, List.take_append_drop]

theorem packB_len (kind : UInt8) (seq : Nat) (text : List UInt8) : (packB kind seq text).length = 9 + text.length := by
  simp only [packB, List.length_append, List.length_cons, fourN_len]; omega
/-- What is packed is unpacked. -/
theorem unpack_pack {kind : UInt8} {seq : Int} {text : List UInt8} (h : packOk kind seq text) : unpackP (packB kind seq.toNat text) = (kind, seq, text, 0) := by
  have hl := packB_len kind seq.toNat text
  have hs : seq.toNat < 4294967296 := by have := h.2; omega
  obtain ⟨a, b, c, d, e1, e2⟩ := four_fourD hs
  have hn : (packB kind seq.toNat text).length - 4 = (kind :: fourN seq.toNat ++ text).length := by
    rw [hl]; simp only [List.length_append, List.length_cons, fourN_len]; omega
  have ht : (packB kind seq.toNat text).take ((packB kind seq.toNat text).length - 4) = kind :: fourN seq.toNat ++ text := by
    rw [hn]; unfold packB; exact List.take_left
  have hd : (packB kind seq.toNat text).drop ((packB kind seq.toNat text).length - 4) = fourN (crcN (kind :: fourN seq.toNat ++ text)) := by
    rw [hn]; unfold packB; exact List.drop_left
  unfold unpackP
  rw [if_neg (by omega), ht, hd, if_neg (by simp)]
  have g : ∀ r : List UInt8, (kind :: fourN seq.toNat ++ text ++ r) = kind :: a :: b :: c :: d :: (text ++ r) := fun r => by rw [e1]; rfl
  have g0 : packB kind seq.toNat text = kind :: a :: b :: c :: d :: (text ++ fourN (crcN (kind :: fourN seq.toNat ++ text))) := g _
  have g5 : (kind :: fourN seq.toNat ++ text).drop 5 = text := by rw [e1]; rfl
  rw [g5, g0]
  simp only [List.getD_cons_zero, List.getD_cons_succ, e2]
  have hsn : ((seq.toNat : Nat) : Int) = seq := by have := h.2.1; omega
  rw [hsn, if_pos h]

end Go.Proofs.YtccnadleegcobaaGreat.Pv
end

section
/- What crc.Sum and the document's Sum tell: both are the plain sum. -/
namespace Go.Proofs.YtccnadleegcobaaGreat.Pv
open Go Go.Pev

theorem bytesT_get {s : List UInt8} {i : Nat} (h : i < s.length) : (bytesT s)[i]? = some [.i .u8 s[i].toNat] := by
  simp [bytesT, h]
theorem crcL_drop {s : List UInt8} {i : Nat} (c : B32) (h : i < s.length) : crcL c (s.drop i) = crcL (crcByte c s[i]) (s.drop (i + 1)) := by
  rw [List.drop_eq_getElem_cons h]; rfl

theorem crc_bits (s : List UInt8) (i : Nat) : ∀ (k j : Nat) (c : B32) (ck : Nat), j + k = 8 → ∃ ck', evL cfg (.loop f21l0) ⟨[(3, .t (.i .u32 (c.toNat : Int))), (8, .ow ⟨8, 2, 1⟩ 1 0 s.length), (9, iv s.length), (10, iv i), (18, iv j)], [(⟨8, 2, 1⟩, .row 5 1 (bytesT s) false)], ck⟩ =
    some (.exit 2, ⟨[(3, .t (.i .u32 ((crcK k c).toNat : Int))), (8, .ow ⟨8, 2, 1⟩ 1 0 s.length), (9, iv s.length), (10, iv i), (18, iv 8), (19, bv false)], [(⟨8, 2, 1⟩, .row 5 1 (bytesT s) false)], ck'⟩) := by
  intro k
  induction k with
  | zero =>
    intro j c ck h
    obtain rfl : j = 8 := by omega
    refine ⟨ck + 1, ?_⟩
    rw [evL_loop]
    simp only [crcK]
    generalize c.toNat = n
    simp [f21l0e]
  | succ k ih =>
    intro j c ck h
    have hj : (j : Int) < 8 := by omega
    have hw : IntKind.i64.wrap ((j : Int) + 1) = (j : Int) + 1 := wrap_id (by omega) (by omega)
    obtain ⟨o, m, p, f1, f2, f3, f4⟩ := crc_ops c
    obtain ⟨ck', hc⟩ := ih (j + 1) (crcBit c) (ck + 5) (by omega)
    refine ⟨ck', ?_⟩
    show _ = some (Ex.exit 2, (⟨[(3, .t (.i .u32 ((crcK k (crcBit c)).toNat : Int))), (8, .ow ⟨8, 2, 1⟩ 1 0 s.length), (9, iv s.length), (10, iv i), (18, iv 8), (19, bv false)], [(⟨8, 2, 1⟩, .row 5 1 (bytesT s) false)], ck'⟩ : St))
    rw [← hc, evL_loop_n]
    generalize c.toNat = n at *
    generalize (crcBit c).toNat = n' at *
    simp [f21l0e, hj, hw, f1, f2, f3, f4, -bin_and, -bin_shr, -bin_mul, -bin_xor]

theorem crc_bytes (s : List UInt8) (hl : s.length ≤ 1000000) : ∀ (k i : Nat) (c : B32) (ck : Nat), i + k = s.length → ∃ ck', evL cfg (.loop f21l1) ⟨[(3, .t (.i .u32 (c.toNat : Int))), (8, .ow ⟨8, 2, 1⟩ 1 0 s.length), (9, iv s.length), (10, iv i)], [(⟨8, 2, 1⟩, .row 5 1 (bytesT s) false)], ck⟩ =
    some (.exit 0, ⟨[(3, .t (.i .u32 ((crcL c (s.drop i)).toNat : Int))), (8, .ow ⟨8, 2, 1⟩ 1 0 s.length), (9, iv s.length), (10, iv s.length), (11, bv false)], [(⟨8, 2, 1⟩, .row 5 1 (bytesT s) false)], ck'⟩) := by
  intro k
  induction k with
  | zero =>
    intro i c ck h
    obtain rfl : i = s.length := by omega
    refine ⟨ck + 1, ?_⟩
    rw [evL_loop, List.drop_length]
    simp only [crcL]
    generalize c.toNat = n
    simp [f21l1e]
  | succ k ih =>
    intro i c ck h
    have hi : i < s.length := by omega
    have hw : IntKind.i64.wrap ((i : Int) + 1) = (i : Int) + 1 := wrap_id (by omega) (by omega)
    have hbb := s[i].toNat_lt
    have hwb : IntKind.u32.wrap (s[i].toNat : Int) = ((BitVec.ofNat 32 s[i].toNat).toNat : Int) := by
      rw [wrapN (by omega), BitVec.toNat_ofNat, Nat.mod_eq_of_lt (by omega)]
    have hx := xor_u32 c (BitVec.ofNat 32 s[i].toNat)
    obtain ⟨c1, h1⟩ := crc_bits s i 8 0 (c ^^^ BitVec.ofNat 32 s[i].toNat) (ck + 4) (by omega)
    obtain ⟨ck', hc⟩ := ih (i + 1) (crcByte c s[i]) (c1 + 1) (by omega)
    refine ⟨ck', ?_⟩
    rw [crcL_drop c hi, ← hc, evL_loop_n]
    have hbt := bytesT_get hi
    simp only [crcByte] at hc ⊢
    simp only [iv, bv, Int.natCast_zero] at h1
    generalize bytesT s = row at *
    generalize (crcK 8 (c ^^^ BitVec.ofNat 32 s[i].toNat)).toNat = n2 at *
    generalize (c ^^^ BitVec.ofNat 32 s[i].toNat).toNat = n1 at *
    generalize (BitVec.ofNat 32 s[i].toNat).toNat = n0 at *
    generalize c.toNat = n at *
    generalize s[i].toNat = b at *
    simp [f21l1e, hi, hw, hbt, hwb, hx, h1, -bin_xor]

theorem crc_ret (s : List UInt8) (hl : s.length ≤ 1000000) : RetT cfg 21 [.t (.s s)] (iv (crcI s)) := by
  refine RetT.of ?_
  rw [runL_pf (fn := f21) rfl rfl]
  obtain ⟨ck', hc⟩ := crc_bytes s hl s.length 0 4294967295#32 3 (by omega)
  have hx := xor_u32 (crcL 4294967295#32 s) 4294967295#32
  have hlt := (crcL 4294967295#32 s ^^^ 4294967295#32).isLt
  have hw : IntKind.i64.wrap ((crcL 4294967295#32 s ^^^ 4294967295#32).toNat : Int) = ((crcL 4294967295#32 s ^^^ 4294967295#32).toNat : Int) := wrap_id (by omega) (by omega)
  have hb : s.length ≤ 140737488355328 := by omega
  rw [List.drop_zero] at hc
  simp only [crcI]
  have e32 : (((4294967295#32 : B32).toNat : Nat) : Int) = 4294967295 := rfl
  rw [e32] at hc hx
  simp only [iv, bv, Int.natCast_zero] at hc hx
  generalize (crcL 4294967295#32 s ^^^ 4294967295#32).toNat = n1 at *
  generalize (crcL 4294967295#32 s).toNat = n0 at *
  have hlb : (bytesT s).length = s.length := by simp [bytesT]
  simp [hb, hc, hx, hw, -bin_xor]
end Go.Proofs.YtccnadleegcobaaGreat.Pv
end

section
/- What the document's over and Sum of the layer 6 tell. -/
namespace Go.Proofs.YtccnadleegcobaaGreat.Pv
open Go Go.Pev

end Go.Proofs.YtccnadleegcobaaGreat.Pv
end

section
/- What port.four, Pack, Unpack and the document's tell. -/
namespace Go.Proofs.YtccnadleegcobaaGreat.Pv
open Go Go.Pev

theorem w8 (n : Nat) : IntKind.u8.wrap (n : Int) = ((n % 256 : Nat) : Int) := by rw [IntKind.wrap_u8]; omega
theorem shr_at (n i : Nat) (hi : i ≤ 64) : bin .shr (.t (.i .i64 (n : Int))) (.t (.i .u64 (i : Int))) = some (.t (.i .i64 ((n / 2 ^ i : Nat) : Int))) := by
  rw [bin_shr]
  show (if (i : Int) < 0 then none else some (V.t (.i .i64 (Int.fdiv (n : Int) (2 ^ (min (i : Int).toNat 64)))))) = _
  rw [if_neg (by omega), Int.toNat_natCast, Nat.min_eq_left hi, Int.fdiv_eq_ediv_of_nonneg _ (Int.pow_nonneg (by decide))]
  congr 4
theorem shl_at (n i : Nat) (hi : i ≤ 64) (h : n * 2 ^ i < 9223372036854775808) : bin .shl (.t (.i .i64 (n : Int))) (.t (.i .u64 (i : Int))) = some (.t (.i .i64 ((n * 2 ^ i : Nat) : Int))) := by
  rw [bin_shl]
  show (if (i : Int) < 0 then none else some (V.t (.i .i64 (IntKind.i64.wrap ((n : Int) * 2 ^ (min (i : Int).toNat 64)))))) = _
  rw [if_neg (by omega), Int.toNat_natCast, Nat.min_eq_left hi]
  have e : (n : Int) * 2 ^ i = ((n * 2 ^ i : Nat) : Int) := by rw [Int.natCast_mul, Int.natCast_pow]; rfl
  rw [e, wrap_id (by omega) (by omega)]
theorem or_at (a b i : Nat) (ha : a < 2 ^ i) (h : a + b * 2 ^ i < 9223372036854775808) : bin .or (.t (.i .i64 (a : Int))) (.t (.i .i64 ((b * 2 ^ i : Nat) : Int))) = some (.t (.i .i64 ((a + b * 2 ^ i : Nat) : Int))) := by
  rw [bin_or]
  show some (V.t (.i .i64 (IntKind.i64.wrap ((BitVec.ofInt 64 (a : Int) ||| BitVec.ofInt 64 ((b * 2 ^ i : Nat) : Int)).toNat : Int)))) = _
  have e : (BitVec.ofInt 64 (a : Int) ||| BitVec.ofInt 64 ((b * 2 ^ i : Nat) : Int)).toNat = a + b * 2 ^ i := by
    rw [show BitVec.ofInt 64 (a : Int) = BitVec.ofNat 64 a from BitVec.ofInt_natCast 64 a, show BitVec.ofInt 64 ((b * 2 ^ i : Nat) : Int) = BitVec.ofNat 64 (b * 2 ^ i) from BitVec.ofInt_natCast 64 _, BitVec.toNat_or, BitVec.toNat_ofNat, BitVec.toNat_ofNat, Nat.mod_eq_of_lt (by omega), Nat.mod_eq_of_lt (by omega)]
    have := Nat.shiftLeft_add_eq_or_of_lt ha b
    rw [Nat.shiftLeft_eq] at this
    rw [Nat.or_comm, ← this, Nat.add_comm]
  rw [e, wrap_id (by omega) (by omega)]

theorem shl_at' {n i m : Nat} (hm : m = n * 2 ^ i) (hi : i ≤ 64) (h : m < 9223372036854775808) : bin .shl (.t (.i .i64 (n : Int))) (.t (.i .u64 (i : Int))) = some (.t (.i .i64 (m : Int))) := by
  subst hm; exact shl_at n i hi h
theorem or_at' {a b i m n : Nat} (hm : m = b * 2 ^ i) (hn : n = a + m) (ha : a < 2 ^ i) (h : n < 9223372036854775808) : bin .or (.t (.i .i64 (a : Int))) (.t (.i .i64 (m : Int))) = some (.t (.i .i64 (n : Int))) := by
  subst hm; subst hn; exact or_at a b i ha h

theorem four_ret (n : Nat) (h : n < 4294967296) : RetT cfg 40 [iv n] (.t (.s (fourN n))) := by
  refine RetT.of ?_
  rw [runL_pf (fn := f40) rfl rfl]
  have s1 := shr_at n 8 (by omega)
  have s2 := shr_at n 16 (by omega)
  have s3 := shr_at n 24 (by omega)
  have w0 := w8 n
  have w1 := w8 (n / 2 ^ 8)
  have w2 := w8 (n / 2 ^ 16)
  have w3 := w8 (n / 2 ^ 24)
  unfold fourN
  rw [show n / 256 = n / 2 ^ 8 from rfl, show n / 65536 = n / 2 ^ 16 from rfl, show n / 16777216 = n / 2 ^ 24 from rfl]
  generalize n / 2 ^ 8 = a1 at *
  generalize n / 2 ^ 16 = a2 at *
  generalize n / 2 ^ 24 = a3 at *
  generalize a1 % 256 = b1 at *
  generalize a2 % 256 = b2 at *
  generalize a3 % 256 = b3 at *
  generalize n % 256 = b0 at *
  have e8 : ((8 : Nat) : Int) = 8 := rfl
  have e16 : ((16 : Nat) : Int) = 16 := rfl
  have e24 : ((24 : Nat) : Int) = 24 := rfl
  rw [e8] at s1
  rw [e16] at s2
  rw [e24] at s3
  simp [s1, s2, s3, w0, w1, w2, w3, -bin_shr, rowsOf, keysOfs, treesC, treesOf, treeOf, freezeAll, elsOf, u8s]

def packR (kind : UInt8) (seq : Int) (text : List UInt8) : List UInt8 := if packOk kind seq text then packB kind seq.toNat text else []
theorem k65 (kind : UInt8) : ((kind.toNat : Int) == 65) = decide (kind = 65) := by
  rw [Bool.eq_iff_iff]; simp only [beq_iff_eq, decide_eq_true_eq]
  constructor
  · intro h; exact UInt8.toNat_inj.1 (by have : (65 : UInt8).toNat = 65 := rfl; omega)
  · rintro rfl; rfl
theorem k68 (kind : UInt8) : ((kind.toNat : Int) == 68) = decide (kind = 68) := by
  rw [Bool.eq_iff_iff]; simp only [beq_iff_eq, decide_eq_true_eq]
  constructor
  · intro h; exact UInt8.toNat_inj.1 (by have : (68 : UInt8).toNat = 68 := rfl; omega)
  · rintro rfl; rfl

set_option maxHeartbeats 4000000 in
theorem pack_ret (kind : UInt8) (seq : Int) (text : List UInt8) (hl : text.length ≤ 900000) : RetT cfg 23 [.t (.i .u8 kind.toNat), iv seq, .t (.s text)] (.tu [.t (.s (packR kind seq text)), iv (if packOk kind seq text then 0 else 1)]) := by
  refine RetT.of_tu (x := [.s (packR kind seq text), .i .i64 (if packOk kind seq text then 0 else 1)]) ?_
  rw [runL_pf (fn := f23) rfl rfl]
  have e65 := k65 kind
  have e68 := k68 kind
  have good : packOk kind seq text → ∃ n : Nat, seq = n ∧ n ≤ 2147483647 ∧ (∀ hp, callQ (runL cfg) 40 [.t (.i .i64 seq)] hp = some (.t (.s (fourN n)))) ∧ (∀ st k, callEv cfg (runL cfg) 21 [.t (.s ([kind] ++ fourN n ++ text))] st k = some (.t (.i .i64 (crcN ([kind] ++ fourN n ++ text))), st.hp, st.ck)) ∧ (∀ st k, callEv cfg (runL cfg) 40 [.t (.i .i64 (crcN ([kind] ++ fourN n ++ text)))] st k = some (.t (.s (fourN (crcN ([kind] ++ fourN n ++ text)))), st.hp, st.ck)) := by
    intro h
    obtain ⟨n, rfl⟩ : ∃ n : Nat, seq = n := ⟨seq.toNat, by have := h.2; omega⟩
    have h2 := h.2.2
    refine ⟨n, rfl, by omega, fun hp => ?_, fun st k => ?_, fun st k => ?_⟩
    · exact callQ_tr (C := cfg) (four_ret n (by omega)) rfl hp
    · exact callEv_tr (C := cfg) (crc_ret ([kind] ++ fourN n ++ text) (by simp [fourN_len]; omega)) rfl rfl rfl st k
    · exact callEv_tr (C := cfg) (four_ret (crcN ([kind] ++ fourN n ++ text)) (crcN_lt _)) rfl rfl rfl st k
  have fin : packOk kind seq text → ∀ n : Nat, seq = n → packR kind seq text = ([kind] ++ fourN n ++ text) ++ fourN (crcN ([kind] ++ fourN n ++ text)) := by
    intro h n hn
    unfold packR
    rw [if_pos h, hn]
    rfl
  by_cases h65 : kind = 65
  · subst h65
    by_cases ht : text = []
    · subst ht
      by_cases h1 : seq < 0
      · have hno : ¬ packOk 65 seq [] := fun h => by have := h.2.1; omega
        simp [packR, hno, h1, (show ((65 : UInt8).toNat : Int) = 65 from rfl)]
      · have d1 : decide (seq < 0) = false := decide_eq_false h1
        by_cases h2 : 2147483647 < seq
        · have hno : ¬ packOk 65 seq [] := fun h => by have := h.2.2; omega
          simp [packR, hno, d1, h2, (show ((65 : UInt8).toNat : Int) = 65 from rfl)]
        · have d2 : decide (2147483647 < seq) = false := decide_eq_false h2
          have hyes : packOk 65 seq [] := ⟨.inr ⟨rfl, rfl⟩, by omega, by omega⟩
          obtain ⟨n, hn, hn2, g1, g2, g3⟩ := good hyes
          have hf := fin hyes n hn
          rw [hf, if_pos hyes]
          have l4 := fourN_len n
          have l4' := fourN_len (crcN ([65] ++ fourN n ++ []))
          generalize hcr : crcN ([65] ++ fourN n ++ []) = cr at *
          generalize hf4 : fourN n = f4 at *
          generalize hfc : fourN cr = fc at *
          simp at g2
          have b1 : ¬ (9223372036854775807 : Int) < 1 + (f4.length : Int) := by omega
          have b2 : ¬ (9223372036854775807 : Int) < 1 + (f4.length : Int) + (fc.length : Int) := by omega
          simp [d1, d2, (show ((65 : UInt8).toNat : Int) = 65 from rfl), g1, g2, g3, rowsOf, keysOfs, treesC, treesOf, treeOf, freezeAll, elsOf, u8s, i64max, l4, l4', b1, b2]
          try omega
    · have hno : ¬ packOk 65 seq text := fun h => by
        rcases h.1 with q | ⟨_, q⟩
        · exact absurd q (by decide)
        · exact ht q
      have dt : (text != []) = true := by simpa using ht
      have hie : text.isEmpty = false := by
        cases text with
        | nil => exact absurd rfl ht
        | cons a b => rfl
      simp [packR, hno, ht, dt, hie, (show ((65 : UInt8).toNat : Int) = 65 from rfl)]
  · have d65 : ((kind.toNat : Int) == 65) = false := by rw [e65]; exact decide_eq_false h65
    by_cases h68 : kind = 68
    · subst h68
      by_cases h1 : seq < 0
      · have hno : ¬ packOk 68 seq text := fun h => by have := h.2.1; omega
        simp [packR, hno, h1, (show ((68 : UInt8).toNat : Int) = 68 from rfl)]
      · have d1 : decide (seq < 0) = false := decide_eq_false h1
        by_cases h2 : 2147483647 < seq
        · have hno : ¬ packOk 68 seq text := fun h => by have := h.2.2; omega
          simp [packR, hno, d1, h2, (show ((68 : UInt8).toNat : Int) = 68 from rfl)]
        · have d2 : decide (2147483647 < seq) = false := decide_eq_false h2
          have hyes : packOk 68 seq text := ⟨.inl rfl, by omega, by omega⟩
          obtain ⟨n, hn, hn2, g1, g2, g3⟩ := good hyes
          have hf := fin hyes n hn
          rw [hf, if_pos hyes]
          have l4 := fourN_len n
          have l4' := fourN_len (crcN ([68] ++ fourN n ++ text))
          generalize hcr : crcN ([68] ++ fourN n ++ text) = cr at *
          generalize hf4 : fourN n = f4 at *
          generalize hfc : fourN cr = fc at *
          simp at g2
          have b1 : ¬ (9223372036854775807 : Int) < 1 + (f4.length : Int) := by omega
          have b2 : ¬ (9223372036854775807 : Int) < 1 + (f4.length : Int) + (text.length : Int) := by omega
          have b3 : ¬ (9223372036854775807 : Int) < 5 + (text.length : Int) := by omega
          have b4 : ¬ (9223372036854775807 : Int) < 5 + (text.length : Int) + 4 := by omega
          have b5 : ¬ (9223372036854775807 : Int) < (text.length : Int) + 4 + 1 + 4 := by omega
          have b6 : ¬ (9223372036854775807 : Int) < 4 + (text.length : Int) + 1 + 4 := by omega
          simp [d1, d2, (show ((68 : UInt8).toNat : Int) = 68 from rfl), g1, g2, g3, rowsOf, keysOfs, treesC, treesOf, treeOf, freezeAll, elsOf, u8s, i64max, l4, l4', b1, b2, b3, b4, b5, b6]
          try omega
    · have hno : ¬ packOk kind seq text := fun h => by
        rcases h.1 with q | ⟨q, _⟩
        · exact h68 q
        · exact h65 q
      have d68 : ((kind.toNat : Int) == 68) = false := by rw [e68]; exact decide_eq_false h68
      generalize hkn : kind.toNat = kn at *
      simp [packR, hno, d65, d68]
end Go.Proofs.YtccnadleegcobaaGreat.Pv
end

section
/- What the document's Pack, and both Unpack tell. -/
namespace Go.Proofs.YtccnadleegcobaaGreat.Pv
open Go Go.Pev

def unpV (r : UInt8 × Int × List UInt8 × Int) : List T := [.i .u8 r.1.toNat, .i .i64 r.2.1, .s r.2.2.1, .i .i64 r.2.2.2]

set_option maxHeartbeats 4000000 in
theorem unpack_ret (s : List UInt8) (hl : s.length ≤ 100000) : RetT cfg 24 [.t (.s s)] (.tu ((unpV (unpackP s)).map .t)) := by
  refine RetT.of_tu ?_
  rw [runL_pf (fn := f24) rfl rfl]
  unfold unpackP
  by_cases h9 : s.length < 9
  · rw [if_pos h9]
    have d9 : decide ((s.length : Int) < 9) = true := decide_eq_true (by omega)
    simp [d9, unpV]
  have d9 : decide ((s.length : Int) < 9) = false := decide_eq_false (by omega)
  rw [if_neg h9]
  have hps := fun hc => pack_is (s := s) (by omega) hc
  obtain ⟨e, he⟩ : ∃ e : Nat, e = s.length - 4 := ⟨_, rfl⟩
  have hw : IntKind.i64.wrap ((s.length : Int) - 4) = (e : Int) := by rw [wrap_id (by omega) (by omega)]; omega
  have hel : e ≤ s.length := by omega
  have h5e : 5 ≤ e := by omega
  have h5i : (5 : Int) ≤ (e : Int) := by omega
  have c1 := fun hp => callQ_tr (C := cfg) (crc_ret (s.take e) (by rw [List.length_take]; omega)) rfl hp
  have c2 := fun hp => callQ_tr (C := cfg) (four_ret (crcN (s.take e)) (crcN_lt _)) rfl hp
  rw [crcI_N] at c1
  rw [← he] at hps ⊢
  simp only [iv] at c1 c2
  have htt : (s.take s.length).drop e = s.drop e := by rw [List.take_length]
  by_cases hc : s.drop e = fourN (crcN (s.take e))
  case neg =>
    rw [if_pos hc]
    have dc : (s.drop e == fourN (crcN (s.take e))) = false := by simpa using hc
    simp [d9, hw, hel, c1, c2, dc, htt, unpV]
  rw [if_neg (by simpa using hc)]
  have hps := hps hc
  have dc : (s.drop e == fourN (crcN (s.take e))) = true := by simpa using hc
  obtain ⟨x0, hx0⟩ : ∃ x, s[0]? = some x := ⟨_, List.getElem?_eq_getElem (by omega)⟩
  obtain ⟨x1, hx1⟩ : ∃ x, s[1]? = some x := ⟨_, List.getElem?_eq_getElem (by omega)⟩
  obtain ⟨x2, hx2⟩ : ∃ x, s[2]? = some x := ⟨_, List.getElem?_eq_getElem (by omega)⟩
  obtain ⟨x3, hx3⟩ : ∃ x, s[3]? = some x := ⟨_, List.getElem?_eq_getElem (by omega)⟩
  obtain ⟨x4, hx4⟩ : ∃ x, s[4]? = some x := ⟨_, List.getElem?_eq_getElem (by omega)⟩
  have gd0 : s.getD 0 0 = x0 := by rw [List.getD_eq_getElem?_getD, hx0]; rfl
  have gd1 : s.getD 1 0 = x1 := by rw [List.getD_eq_getElem?_getD, hx1]; rfl
  have gd2 : s.getD 2 0 = x2 := by rw [List.getD_eq_getElem?_getD, hx2]; rfl
  have gd3 : s.getD 3 0 = x3 := by rw [List.getD_eq_getElem?_getD, hx3]; rfl
  have gd4 : s.getD 4 0 = x4 := by rw [List.getD_eq_getElem?_getD, hx4]; rfl
  rw [gd0, gd1, gd2, gd3, gd4] at hps ⊢
  have q1 := x1.toNat_lt
  have q2 := x2.toNat_lt
  have q3 := x3.toNat_lt
  have q4 := x4.toNat_lt
  obtain ⟨m2, hm2⟩ : ∃ m : Nat, m = 256 * x2.toNat := ⟨_, rfl⟩
  obtain ⟨m3, hm3⟩ : ∃ m : Nat, m = 65536 * x3.toNat := ⟨_, rfl⟩
  obtain ⟨m4, hm4⟩ : ∃ m : Nat, m = 16777216 * x4.toNat := ⟨_, rfl⟩
  obtain ⟨n2, hn2⟩ : ∃ m : Nat, m = x1.toNat + m2 := ⟨_, rfl⟩
  obtain ⟨n3, hn3⟩ : ∃ m : Nat, m = n2 + m3 := ⟨_, rfl⟩
  have hD : fourD x1 x2 x3 x4 = n3 + m4 := by unfold fourD; omega
  have f2 := shl_at' (n := x2.toNat) (i := 8) (m := m2) (by omega) (by omega) (by omega)
  have f3 := shl_at' (n := x3.toNat) (i := 16) (m := m3) (by omega) (by omega) (by omega)
  have f4 := shl_at' (n := x4.toNat) (i := 24) (m := m4) (by omega) (by omega) (by omega)
  have g2 := or_at' (a := x1.toNat) (b := x2.toNat) (i := 8) (m := m2) (n := n2) (by omega) (by omega) (by omega) (by omega)
  have g3 := or_at' (a := n2) (b := x3.toNat) (i := 16) (m := m3) (n := n3) (by omega) (by omega) (by omega) (by omega)
  have g4 := or_at' (a := n3) (b := x4.toNat) (i := 24) (m := m4) (n := fourD x1 x2 x3 x4) (by omega) (by omega) (by omega) (by omega)
  have v1 : IntKind.i64.wrap (x1.toNat : Int) = (x1.toNat : Int) := wrap_id (by omega) (by omega)
  have v2 : IntKind.i64.wrap (x2.toNat : Int) = (x2.toNat : Int) := wrap_id (by omega) (by omega)
  have v3 : IntKind.i64.wrap (x3.toNat : Int) = (x3.toNat : Int) := wrap_id (by omega) (by omega)
  have v4 : IntKind.i64.wrap (x4.toNat : Int) = (x4.toNat : Int) := wrap_id (by omega) (by omega)
  have c3 := fun hp => callQ_tr (C := cfg) (pack_ret x0 (fourD x1 x2 x3 x4 : Nat) ((s.take e).drop 5) (by rw [List.length_drop, List.length_take]; omega)) rfl hp
  have hpr : packOk x0 (fourD x1 x2 x3 x4 : Nat) ((s.take e).drop 5) → packR x0 (fourD x1 x2 x3 x4 : Nat) ((s.take e).drop 5) = s := fun h => by
    unfold packR; rw [if_pos h]; exact hps
  generalize fourD x1 x2 x3 x4 = D at *
  generalize hu : (s.take e).drop 5 = u at *
  have e8 : ((8 : Nat) : Int) = 8 := rfl
  have e16 : ((16 : Nat) : Int) = 16 := rfl
  have e24 : ((24 : Nat) : Int) = 24 := rfl
  rw [e8] at f2
  rw [e16] at f3
  rw [e24] at f4
  simp only [iv] at c3
  by_cases hok : packOk x0 (D : Int) u
  · rw [if_pos hok] at c3 ⊢
    rw [hpr hok] at c3
    simp [d9, hw, hel, h5e, h5i, c1, c2, dc, htt, unpV, hx0, hx1, hx2, hx3, hx4, v1, v2, v3, v4, f2, f3, f4, g2, g3, g4, hu  , c3, -bin_shl, -bin_or]
  · rw [if_neg hok] at c3 ⊢
    simp [d9, hw, hel, h5e, h5i, c1, c2, dc, htt, unpV, hx0, hx1, hx2, hx3, hx4, v1, v2, v3, v4, f2, f3, f4, g2, g3, g4, hu  , c3, -bin_shl, -bin_or]

end Go.Proofs.YtccnadleegcobaaGreat.Pv
end

section
/- The library's Clone of a row of numbers. -/
namespace Go.Proofs.YtccnadleegcobaaGreat.Pv
open Go Go.Pev
theorem clone_ret (xs : List (List T)) (h : ∀ c ∈ xs, c.length = 1) (hl : xs.length ≤ 1000000) : RetO cfg 45 [.t (.l xs)] 3 1 xs := by
  refine ⟨⟨0, 0, 0⟩, [(⟨0, 0, 0⟩, .row 3 1 xs false)], 9, ?_, by simp [HP.get]⟩
  rw [runL_ex (p := cloneP 3 1 8) rfl]
  unfold cloneP
  have h1 : (xs.all fun c => c.length == 1) = true := List.all_eq_true.2 fun c hc => by simpa using h c hc
  have h2 : xs.length * 8 ≤ 140737488355328 := by omega
  simp only [h1, h2]
  simp

end Go.Proofs.YtccnadleegcobaaGreat.Pv
end

section
/- What link.Right, Push, Told tell. -/
namespace Go.Proofs.YtccnadleegcobaaGreat.Pv
open Go Go.Pev

abbrev Fr := Int × List UInt8
def fcs (fs : List Fr) : List (List T) := fs.map fun f => [.i .i64 f.1, .s f.2]
def fl (fs : List Fr) : T := .l (fs.map fun f => [.i .i64 f.1, .s f.2])
def upF : Int → Int → List Fr → Bool
  | _, _, [] => true
  | last, next, f :: r => decide (last < f.1) && decide (f.1 < next) && upF f.1 next r
def lright (next : Int) (fs : List Fr) : Bool := decide (0 ≤ next ∧ next ≤ 2147483647 ∧ fs.length ≤ 64) && upF (-1) next fs
theorem upF_at {fs : List Fr} {i : Nat} (last next : Int) (h : i < fs.length) : upF last next (fs.drop i) = (decide (last < fs[i].1) && decide (fs[i].1 < next) && upF fs[i].1 next (fs.drop (i + 1))) := by
  rw [List.drop_eq_getElem_cons h]; rfl

theorem lright_loop (next : Int) (fs : List Fr) (hl : fs.length ≤ 1000000) : ∀ (k i : Nat) (last : Int) (ck : Nat), i + k = fs.length → ∃ c last', evL cfg (.loop f38l0) ⟨[(1, .pt ⟨1, 0, 0⟩ 2 0 0), (3, iv last), (7, .t (fl fs)), (8, iv fs.length), (9, iv i)], [(⟨1, 0, 0⟩, .box 37 [iv next, .t (fl fs)])], ck⟩ =
    some (if upF last next (fs.drop i) then (.exit 0, ⟨[(1, .pt ⟨1, 0, 0⟩ 2 0 0), (3, iv last'), (7, .t (fl fs)), (8, iv fs.length), (9, iv fs.length), (10, bv false)], [(⟨1, 0, 0⟩, .box 37 [iv next, .t (fl fs)])], c⟩) else (.ret, ⟨[(2, bv false)], [], c⟩)) := by
  intro k
  induction k with
  | zero =>
    intro i last ck h
    obtain rfl : i = fs.length := by omega
    refine ⟨ck + 1, last, ?_⟩
    rw [evL_loop]
    simp [f38l0e, upF]
  | succ k ih =>
    intro i last ck h
    have hi : i < fs.length := by omega
    have hw : IntKind.i64.wrap ((i : Int) + 1) = (i : Int) + 1 := wrap_id (by omega) (by omega)
    have hli : fs[i]? = some fs[i] := List.getElem?_eq_getElem hi
    rw [upF_at last next hi]
    by_cases h1 : fs[i].1 ≤ last
    · refine ⟨ck + 4, last, ?_⟩
      rw [evL_loop, decide_eq_false (by omega : ¬ last < fs[i].1)]
      simp [f38l0e, fl, hi, h1, over]
    · have d1 : decide (fs[i].1 ≤ last) = false := decide_eq_false h1
      by_cases h2 : next ≤ fs[i].1
      · refine ⟨ck + 4, last, ?_⟩
        rw [evL_loop, decide_eq_false (by omega : ¬ fs[i].1 < next), Bool.and_false, Bool.false_and]
        simp [f38l0e, fl, hi, d1, h2, over]
      · have d2 : decide (next ≤ fs[i].1) = false := decide_eq_false h2
        obtain ⟨c, last', hc⟩ := ih (i + 1) fs[i].1 (ck + 5) (by omega)
        refine ⟨c, last', ?_⟩
        rw [decide_eq_true (by omega : last < fs[i].1), decide_eq_true (by omega : fs[i].1 < next), Bool.true_and, Bool.true_and, ← hc, evL_loop_n]
        simp [f38l0e, fl, hi, hw, d1, d2, over]

theorem lright_ret (next : Int) (fs : List Fr) (hl : fs.length ≤ 1000000) : RetT cfg 38 [.ag [iv next, .t (fl fs)]] (bv (lright next fs)) := by
  obtain ⟨c, last', hc⟩ := lright_loop next fs hl fs.length 0 (-1) 3 (by omega)
  refine RetT.of ?_
  rw [runL_pf (fn := f38) rfl rfl]
  simp only [List.drop_zero, fl, iv, bv, Int.natCast_zero] at hc
  by_cases h1 : upF (-1) next fs = true
  · rw [if_pos h1] at hc
    by_cases h2 : 0 ≤ next
    · by_cases h3 : next ≤ 2147483647
      · by_cases h4 : fs.length ≤ 64
        · have d4 : decide ((fs.length : Int) ≤ 64) = true := decide_eq_true (by omega)
          simp [fl, hc, lright, h1, h2, h3, h4, d4]
        · have d4 : decide ((fs.length : Int) ≤ 64) = false := decide_eq_false (by omega)
          simp [fl, hc, lright, h1, h2, h3, h4, d4]
      · simp [fl, hc, lright, h1, h2, h3]
    · simp [fl, hc, lright, h1, h2]
  · rw [if_neg h1] at hc
    simp [fl, hc, lright, h1]

theorem clonef_ret (xs : List (List T)) (h : ∀ c ∈ xs, c.length = 2) (hl : xs.length ≤ 1000000) : RetO cfg 39 [.t (.l xs)] 77 2 xs := by
  refine ⟨⟨0, 0, 0⟩, [(⟨0, 0, 0⟩, .row 77 2 xs false)], 9, ?_, by simp [HP.get]⟩
  rw [runL_ex (p := cloneP 77 2 24) rfl]
  unfold cloneP
  have h1 : (xs.all fun c => c.length == 2) = true := List.all_eq_true.2 fun c hc => by simpa using h c hc
  have h2 : xs.length * 24 ≤ 140737488355328 := by omega
  simp only [h1, h2]
  simp
theorem fcs_two (fs : List Fr) : ∀ c ∈ (fs.map fun f => ([.i .i64 f.1, .s f.2] : List T)), c.length = 2 := by
  intro c hc
  obtain ⟨f, _, rfl⟩ := List.mem_map.1 hc
  rfl

def pushP (next : Int) (fs : List Fr) (text : List UInt8) : Int × List Fr × Int × Int :=
  if lright next fs = false ∨ next = 2147483647 then (next, fs, 0, 1) else if fs.length = 64 then (next, fs, 0, 8) else (next + 1, fs ++ [(next, text)], next, 0)
def pushV (r : Int × List Fr × Int × Int) : V := .tu [.ag [iv r.1, .t (fl r.2.1)], iv r.2.2.1, iv r.2.2.2]
set_option maxHeartbeats 4000000 in
theorem push_ret (next : Int) (fs : List Fr) (text : List UInt8) (hl : fs.length ≤ 100000) : RetT cfg 22 [.ag [iv next, .t (fl fs)], .t (.s text)] (pushV (pushP next fs text)) := by
  have hr := fun st k => callEv_tr (C := cfg) (lright_ret next fs (by omega)) rfl rfl rfl st k
  have hcl := fun st k => callEv_tro (C := cfg) (clonef_ret (fs.map fun f => [.i .i64 f.1, .s f.2]) (fcs_two fs) (by simp; omega)) rfl rfl rfl st k
  simp only [fl, iv, bv, List.length_map] at hr hcl
  unfold RetT
  rw [runL_pf (fn := f22) rfl rfl]
  unfold pushP
  by_cases h1 : lright next fs = true
  · by_cases h2 : next = 2147483647
    · rw [if_pos (.inr h2)]
      subst h2
      simp [fl, hr, h1, over]
      refine ⟨_, _, ⟨rfl, rfl⟩, ?_⟩
      simp [pushV, resOf, resOfs, resOf1, treesOf, treeOf, fl]
    · have d2 : (next == 2147483647) = false := by simpa using h2
      rw [if_neg (by rintro (q | q); · rw [h1] at q; cases q
                     · exact h2 q)]
      by_cases h3 : fs.length = 64
      · rw [if_pos h3]
        simp [fl, hr, h1, d2, h3, over]
        refine ⟨_, _, ⟨rfl, rfl⟩, ?_⟩
        simp [pushV, resOf, resOfs, resOf1, treesOf, treeOf, fl]
      · rw [if_neg h3]
        have d3 : ((fs.length : Int) == 64) = false := by simp; omega
        have hb : 0 ≤ next ∧ next ≤ 2147483647 := by
          simp only [lright, Bool.and_eq_true, decide_eq_true_eq] at h1; omega
        have hw : IntKind.i64.wrap (next + 1) = next + 1 := wrap_id (by omega) (by omega)
        have hby : (fs.length + 1) * 24 ≤ 140737488355328 := by omega
        simp [fl, hr, hcl, h1, d2, d3, hw, hby, over, rowsOf, keysOfs, treesC, treesOf, treeOf, freezeAll, keysOf1, app, elsOf, buildV]
        refine ⟨_, _, ⟨rfl, rfl⟩, ?_⟩
        simp [pushV, resOf, resOfs, resOf1, treesOf, treeOf, fl]
        try exact List.take_of_length_le (by simp)
  · rw [if_pos (.inl (by simpa using h1))]
    simp [fl, hr, h1, over]
    refine ⟨_, _, ⟨rfl, rfl⟩, ?_⟩
    simp [pushV, resOf, resOfs, resOf1, treesOf, treeOf, fl]
end Go.Proofs.YtccnadleegcobaaGreat.Pv
end

section
/- What link.Told tells (slices.IndexFunc, slices.DeleteFunc of frames). -/
namespace Go.Proofs.YtccnadleegcobaaGreat.Pv
open Go Go.Pev

theorem filt_true {α : Type} (l : List α) : List.filter (fun _ => true) l = l := List.filter_eq_self.2 fun _ _ => rfl
theorem get_put_self {k : Key} {o' : Ob} : ∀ {h : HP} {o : Ob}, h.get k = some o → (h.put k k o').get k = some o'
  | [], o, hg => by cases hg
  | (q, x) :: h, o, hg => by
    simp only [HP.get, HP.put] at hg ⊢
    by_cases e : q = k
    · rw [if_pos e]; simp only [HP.get, if_true]
    · rw [if_neg e] at hg ⊢
      simp only [HP.get, if_neg e]
      exact get_put_self hg
theorem get_put_ne {k q : Key} {o' : Ob} (hne : q ≠ k) : ∀ {h : HP}, (h.put k k o').get q = h.get q
  | [] => rfl
  | (p, x) :: h => by
    simp only [HP.put]
    by_cases e : p = k
    · subst e
      rw [if_pos rfl]
      simp only [HP.get, if_neg (Ne.symm hne)]
    · rw [if_neg e]
      simp only [HP.get]
      by_cases e2 : p = q
      · rw [if_pos e2, if_pos e2]
      · rw [if_neg e2, if_neg e2]; exact get_put_ne hne

theorem told1_pr (n seq : Int) (t : List UInt8) (s : St) (k : Key) : callEv cfg (runL cfg) 42 [.ag [.t (.i .i64 n), .t (.s t)], .pr [.i .i64 seq]] s k = some (.t (.b (n == seq)), (⟨2, s.ck + 1, 0⟩, .box 77 [.t (.i .i64 n), .t (.s t)]) :: s.hp, s.ck + 4) := by
  refine callEv_h (C := cfg) (c' := s.ck + 3) rfl ?_ k
  rw [runL_pf (fn := f42) rfl rfl]
  simp [filt_true]
theorem told1_pt (n seq : Int) (t : List UInt8) (q : Key) (bt : Nat) (s : St) (k : Key) (hq : s.hp.get q = some (.box bt [.t (.i .i64 seq)])) (hc : q.c < s.ck + 1) : callEv cfg (runL cfg) 42 [.ag [.t (.i .i64 n), .t (.s t)], .pt q 1 0 0] s k = some (.t (.b (n == seq)), (⟨2, s.ck + 1, 0⟩, .box 77 [.t (.i .i64 n), .t (.s t)]) :: s.hp, s.ck + 4) := by
  refine callEv_h (C := cfg) (c' := s.ck + 3) rfl ?_ k
  rw [runL_pf (fn := f42) rfl rfl]
  have hne : ¬ (⟨2, s.ck + 1, 0⟩ : Key) = q := fun e => by have h := congrArg Key.c e; simp only at h; omega
  simp [filt_true, hq, hne]

def idxF (fs : List Fr) (seq : Int) : Int := if fs.any (fun f => f.1 == seq) then fs.findIdx (fun f => f.1 == seq) else -1
theorem any_at {fs : List Fr} {i : Nat} (seq : Int) (h : i < fs.length) : (fs.drop i).any (fun f => f.1 == seq) = (fs[i].1 == seq || (fs.drop (i + 1)).any (fun f => f.1 == seq)) := by
  rw [List.drop_eq_getElem_cons h]; rfl

theorem ixF_loop (fs : List Fr) (seq : Int) (hl : fs.length ≤ 1000000) : ∀ (k i ck : Nat) (hp : HP), i + k = fs.length → (∀ j, (hj : j < fs.length) → j < i → (fs[j].1 == seq) = false) → ∃ c hp', evL cfg (.loop f66l0) ⟨[(0, .t (fl fs)), (1, .fn 42 [.pr [.i .i64 seq]]), (7, iv fs.length), (8, iv i)], hp, ck⟩ =
    some (if (fs.drop i).any (fun f => f.1 == seq) then (.ret, ⟨[(4, iv (idxF fs seq))], hp', c⟩) else (.exit 0, ⟨[(0, .t (fl fs)), (1, .fn 42 [.pr [.i .i64 seq]]), (7, iv fs.length), (8, iv fs.length), (9, bv false)], hp', c⟩)) := by
  intro k
  induction k with
  | zero =>
    intro i ck hp h _
    obtain rfl : i = fs.length := by omega
    refine ⟨ck + 1, hp, ?_⟩
    rw [evL_loop]
    simp [f66l0e, filt_true]
  | succ k ih =>
    intro i ck hp h hb
    have hi : i < fs.length := by omega
    have hw : IntKind.i64.wrap ((i : Int) + 1) = (i : Int) + 1 := wrap_id (by omega) (by omega)
    rw [any_at seq hi]
    by_cases hx : (fs[i].1 == seq) = true
    · have hid : idxF fs seq = i := by
        have h1 : fs.findIdx (fun f => f.1 == seq) = i := by
          rw [List.findIdx_eq hi]
          exact ⟨hx, fun j hj => by simpa using hb j (by omega) hj⟩
        have h2 : fs.any (fun f => f.1 == seq) = true := List.any_eq_true.2 ⟨fs[i], List.getElem_mem hi, hx⟩
        unfold idxF; rw [if_pos h2, h1]
      refine ⟨ck + 7 + 1, (⟨2, ck + 3, 0⟩, .box 77 [.t (.i .i64 fs[i].1), .t (.s fs[i].2)]) :: hp, ?_⟩
      rw [evL_loop, hx, hid]
      simp [f66l0e, fl, hi, hx, told1_pr, filt_true]
    · have hx : (fs[i].1 == seq) = false := by simpa using hx
      obtain ⟨c, hp', hc⟩ := ih (i + 1) (ck + 8) ((⟨2, ck + 3, 0⟩, .box 77 [.t (.i .i64 fs[i].1), .t (.s fs[i].2)]) :: hp) (by omega) (fun j hj hji => by
        rcases Nat.lt_succ_iff_lt_or_eq.1 hji with h | rfl
        · exact hb j hj h
        · exact hx)
      refine ⟨c, hp', ?_⟩
      rw [hx, Bool.false_or, ← hc, evL_loop_n]
      simp [f66l0e, fl, hi, hx, hw, told1_pr, filt_true]

theorem ixF_ret (fs : List Fr) (seq : Int) (hl : fs.length ≤ 1000000) : RetT cfg 66 [.t (fl fs), .fn 42 [.pr [.i .i64 seq]]] (iv (idxF fs seq)) := by
  obtain ⟨c, hp', hc⟩ := ixF_loop fs seq hl fs.length 0 2 [] (by omega) (by omega)
  refine RetT.of ?_
  rw [runL_pf (fn := f66) rfl rfl]
  rw [List.drop_zero] at hc
  simp only [fl, iv, bv, Int.natCast_zero] at hc
  by_cases hx : fs.any (fun f => f.1 == seq) = true
  · rw [if_pos hx] at hc
    simp [fl, hc]
  · rw [if_neg hx] at hc
    have : idxF fs seq = -1 := by unfold idxF; rw [if_neg hx]
    rw [this]
    simp [fl, hc, filt_true]
theorem ixF_call (fs : List Fr) (seq : Int) (hl : fs.length ≤ 1000000) (k q : Key) (ty bt : Nat) (s : St) (kk : Key) (hk : s.hp.get k = some (.row ty 2 (fcs fs) false)) (hq : s.hp.get q = some (.box bt [.t (.i .i64 seq)])) : callEv cfg (runL cfg) 66 [.ow k 2 0 fs.length, .fn 42 [.pt q 1 0 0]] s kk = some (.t (.i .i64 (idxF fs seq)), s.hp, s.ck) := by
  have h1 : treeOf s.hp (.ow k 2 0 fs.length) = some (fl fs) := treeOf_ow hk (by simp [fcs])
  refine callEv_t (C := cfg) rfl rfl (ps := [.t (fl fs), .fn 42 [.pr [.i .i64 seq]]]) ?_ (ixF_ret fs seq hl) (.inl rfl)
  simp only [puresOf, pureOf, h1]
  simp [capsOf, capOf, hq, treesOf, treeOf]

abbrev keepF (seq : Int) (f : Fr) : Bool := f.1 != seq
theorem delF_loop (seq : Int) (k q : Key) (ty bt : Nat) (hkq : ¬ k = q) : ∀ (m j w : Nat) (r : List Fr) (hp : HP) (ck : Nat), j + m = r.length → w ≤ j → r.length ≤ 1000000 → hp.get k = some (.row ty 2 (fcs r) false) → hp.get q = some (.box bt [.t (.i .i64 seq)]) → k.c < ck → q.c < ck →
    ∃ c r' hp', ck ≤ c ∧ r'.length = r.length ∧ r'.take (w + ((r.drop j).filter (keepF seq)).length) = r.take w ++ (r.drop j).filter (keepF seq) ∧ hp'.get k = some (.row ty 2 (fcs r') false) ∧ (∀ p : Key, p ≠ k → p.c < ck → hp'.get p = hp.get p) ∧
    evL cfg (.loop f41l0) ⟨[(0, .ow k 2 0 r.length), (1, .fn 42 [.pt q 1 0 0]), (5, iv w), (6, iv j)], hp, ck⟩ =
    some (.exit 0, ⟨[(0, .ow k 2 0 r.length), (1, .fn 42 [.pt q 1 0 0]), (5, iv ((w + ((r.drop j).filter (keepF seq)).length : Nat) : Int)), (6, iv r.length), (19, bv false)], hp', c⟩) := by
  intro m
  induction m with
  | zero =>
    intro j w r hp ck h hw hl hg hq _ _
    obtain rfl : j = r.length := by omega
    refine ⟨ck + 1, r, hp, by omega, rfl, by simp, hg, fun _ _ _ => rfl, ?_⟩
    rw [evL_loop]
    simp [f41l0e, filt_true]
  | succ m ih =>
    intro j w r hp ck h hwj hl hg hq hkc hqc
    have hj : j < r.length := by omega
    have hw6 : IntKind.i64.wrap ((j : Int) + 1) = (j : Int) + 1 := wrap_id (by omega) (by omega)
    have hw5 : IntKind.i64.wrap ((w : Int) + 1) = (w : Int) + 1 := wrap_id (by omega) (by omega)
    have hd : r.drop j = r[j] :: r.drop (j + 1) := List.drop_eq_getElem_cons hj
    have hwl : w < r.length := by omega
    have hnk : ∀ s d o : Nat, ¬ (⟨s, ck + d, o⟩ : Key) = k := fun s d o e => by have h := congrArg Key.c e; simp only at h; omega
    have hnq : ∀ s d o : Nat, ¬ (⟨s, ck + d, o⟩ : Key) = q := fun s d o e => by have h := congrArg Key.c e; simp only at h; omega
    have n1 := hnk 7 1 4
    have n2 := hnk 2 3 0
    have n3 := hnq 7 1 4
    have n4 := hnq 2 3 0
    have hr1 := fun (s : St) (kk : Key) hg hc => told1_pt r[j].1 seq r[j].2 q bt s kk hg hc
    have hgj : (fcs r)[j]? = some [.i .i64 r[j].1, .s r[j].2] := by simp [fcs, hj]
    have hgj' : ∀ h : j < (fcs r).length, (fcs r)[j] = [.i .i64 r[j].1, .s r[j].2] := fun h => by simp [fcs]
    have hwf' : ∀ h : w < (fcs r).length, (fcs r)[w] = [.i .i64 r[w].1, .s r[w].2] := fun h => by simp [fcs]
    have hlf : (fcs r).length = r.length := by simp [fcs]
    have hwf : (fcs r)[w]? = some [.i .i64 r[w].1, .s r[w].2] := by simp [fcs, hwl]
    have hqc' : q.c < ck + 1 + 1 + 1 := by omega
    by_cases hx : r[j].1 = seq
    · have hb : (r[j].1 == seq) = true := by simp [hx]
      have hf : (r.drop j).filter (keepF seq) = (r.drop (j + 1)).filter (keepF seq) := by rw [hd]; exact List.filter_cons_of_neg (by simp [keepF, hx])
      obtain ⟨c, r', hp', g0, g1, g2, g3, g4, g5⟩ := ih (j + 1) w r ((⟨2, ck + 3, 0⟩, .box 77 [.t (.i .i64 r[j].1), .t (.s r[j].2)]) :: (⟨7, ck + 1, 4⟩, .box 77 [.t (.i .i64 r[j].1), .t (.s r[j].2)]) :: hp) (ck + 8) (by omega) (by omega) hl (by simp only [HP.get, if_neg n1, if_neg n2]; exact hg) (by simp only [HP.get, if_neg n3, if_neg n4]; exact hq) (by omega) (by omega)
      refine ⟨c, r', hp', by omega, g1, by rw [hf]; exact g2, g3, fun p hpk hpc => ?_, ?_⟩
      · rw [g4 p hpk (by omega)]
        have m1 : ¬ (⟨2, ck + 3, 0⟩ : Key) = p := fun e => by have h := congrArg Key.c e; simp only at h; omega
        have m2 : ¬ (⟨7, ck + 1, 4⟩ : Key) = p := fun e => by have h := congrArg Key.c e; simp only at h; omega
        simp only [HP.get, if_neg m1, if_neg m2]
      · rw [hf, ← g5, evL_loop_n]
        simp only [hb] at hr1
        simp [f41l0e, hj, hb, hw6, hg, hq, hgj, hgj', hlf, hr1, n1, n2, n3, n4, hqc', hkq, filt_true, over, Nat.add_assoc]
    · have hb : (r[j].1 == seq) = false := by simp [hx]
      have hf : (r.drop j).filter (keepF seq) = r[j] :: (r.drop (j + 1)).filter (keepF seq) := by rw [hd]; exact List.filter_cons_of_pos (by simp [keepF, hx])
      have hset : (fcs r).set w [.i .i64 r[j].1, .s r[j].2] = fcs (r.set w r[j]) := by simp [fcs, List.map_set]
      obtain ⟨c, r', hp', g0, g1, g2, g3, g4, g5⟩ := ih (j + 1) (w + 1) (r.set w r[j]) ((⟨2, ck + 3, 0⟩, .box 77 [.t (.i .i64 r[j].1), .t (.s r[j].2)]) :: (⟨7, ck + 1, 4⟩, .box 77 [.t (.i .i64 r[j].1), .t (.s r[j].2)]) :: hp.put k k (.row ty 2 (fcs (r.set w r[j])) false)) (ck + 10) (by simp; omega) (by omega) (by simpa using hl) (by simp only [HP.get, if_neg n1, if_neg n2]; exact get_put_self hg) (by simp only [HP.get, if_neg n3, if_neg n4]; rw [get_put_ne (fun e => hkq e.symm)]; exact hq) (by omega) (by omega)
      have hdr : (r.set w r[j]).drop (j + 1) = r.drop (j + 1) := by
        rw [List.drop_set]; simp; omega
      rw [hdr] at g2 g5
      simp only [List.length_set] at g1 g2 g5
      have htk : (r.set w r[j]).take (w + 1) = r.take w ++ [r[j]] := by
        rw [List.take_succ_eq_append_getElem (by simpa using hwl)]
        simp [List.take_set_of_le]
      have hlen : w + ((r.drop j).filter (keepF seq)).length = w + 1 + ((r.drop (j + 1)).filter (keepF seq)).length := by rw [hf, List.length_cons]; omega
      refine ⟨c, r', hp', by omega, g1, ?_, g3, fun p hpk hpc => ?_, ?_⟩
      · rw [hlen, g2, htk, hf]; simp
      · rw [g4 p hpk (by omega)]
        have m1 : ¬ (⟨2, ck + 3, 0⟩ : Key) = p := fun e => by have h := congrArg Key.c e; simp only at h; omega
        have m2 : ¬ (⟨7, ck + 1, 4⟩ : Key) = p := fun e => by have h := congrArg Key.c e; simp only at h; omega
        simp only [HP.get, if_neg m1, if_neg m2]
        exact get_put_ne hpk
      · rw [hlen, ← g5, evL_loop_n]
        simp only [hb] at hr1
        simp [f41l0e, hj, hb, hw6, hw5, hg, hq, hgj, hgj', hwf, hwf', hlf, hr1, n1, n2, n3, n4, hqc', hkq, hwl, filt_true, over, treesC, treesOf, treeOf, keysOf, keysOf1, freezeAll, hset, Nat.add_assoc]
end Go.Proofs.YtccnadleegcobaaGreat.Pv
end

section
/- What link.Told tells: the whole. -/
namespace Go.Proofs.YtccnadleegcobaaGreat.Pv
open Go Go.Pev

theorem delF_split (seq : Int) : ∀ fs : List Fr, fs.any (fun f => f.1 == seq) = true → fs.take (fs.findIdx (fun f => f.1 == seq)) ++ (fs.drop (fs.findIdx (fun f => f.1 == seq) + 1)).filter (keepF seq) = fs.filter (keepF seq)
  | [], h => by cases h
  | a :: fs, h => by
    by_cases e : (a.1 == seq) = true
    · rw [List.findIdx_cons, e]
      have : keepF seq a = false := by simp only [keepF, bne, e]; rfl
      simp [this]
    · have e' : (a.1 == seq) = false := by simpa using e
      have h' : fs.any (fun f => f.1 == seq) = true := by rw [List.any_cons, e'] at h; exact h
      have ih := delF_split seq fs h'
      have hk : keepF seq a = true := by simp only [keepF, bne, e']; rfl
      rw [List.findIdx_cons, e']
      simp only [cond_false, List.take_succ_cons, List.drop_succ_cons, List.cons_append, ih]
      rw [List.filter_cons_of_pos hk]

theorem delF_run (fs : List Fr) (seq : Int) (hl : fs.length ≤ 1000000) (k q : Key) (ty bt : Nat) (hkq : ¬ k = q) (hp : HP) (ck : Nat) (hg : hp.get k = some (.row ty 2 (fcs fs) false)) (hq : hp.get q = some (.box bt [.t (.i .i64 seq)])) (hkc : k.c < ck) (hqc : q.c < ck) :
    ∃ c hp', runL cfg 41 [.ow k 2 0 fs.length, .fn 42 [.pt q 1 0 0]] hp ck = some (.ow k 2 0 (fs.filter (keepF seq)).length, hp', c) ∧ hp'.get k = some (.row ty 2 (fcs (fs.filter (keepF seq))) false) ∧ ∀ p : Key, p ≠ k → p.c < ck → hp'.get p = hp.get p := by
  have n1 : ¬ (⟨4, ck, 0⟩ : Key) = k := fun e => by have h := congrArg Key.c e; simp only at h; omega
  have n2 : ¬ (⟨4, ck, 0⟩ : Key) = q := fun e => by have h := congrArg Key.c e; simp only at h; omega
  have hix := fun (s : St) (kk : Key) h1 h2 => ixF_call fs seq hl k q ty bt s kk h1 h2
  by_cases hx : fs.any (fun f => f.1 == seq) = true
  · have hidx : idxF fs seq = fs.findIdx (fun f => f.1 == seq) := by unfold idxF; rw [if_pos hx]
    have hil : fs.findIdx (fun f => f.1 == seq) < fs.length := by
      obtain ⟨f, hm, hf⟩ := List.any_eq_true.1 hx
      exact List.findIdx_lt_length_of_exists ⟨f, hm, hf⟩
    have hsp := delF_split seq fs hx
    generalize fs.findIdx (fun f => f.1 == seq) = i0 at *
    have hw : IntKind.i64.wrap ((i0 : Int) + 1) = (i0 : Int) + 1 := wrap_id (by omega) (by omega)
    obtain ⟨c, r', hp', g0, g1, g2, g3, g4, g5⟩ := delF_loop seq k q ty bt hkq (fs.length - (i0 + 1)) (i0 + 1) i0 fs ((⟨4, ck, 0⟩, .row 77 2 [] false) :: hp) (ck + 4) (by omega) (by omega) hl (by simp only [HP.get, if_neg n1]; exact hg) (by simp only [HP.get, if_neg n2]; exact hq) (by omega) (by omega)
    rw [hsp] at g2
    have hlen : i0 + ((fs.drop (i0 + 1)).filter (keepF seq)).length = (fs.filter (keepF seq)).length := by
      rw [← hsp, List.length_append, List.length_take, Nat.min_eq_left (by omega)]
    rw [hlen] at g2 g5
    have hn1 : ((i0 : Int) == -1) = false := by simp
    have hle : (fs.filter (keepF seq)).length ≤ fs.length := List.length_filter_le _ _
    have hclr : (fcs r').take (fs.filter (keepF seq)).length = fcs (fs.filter (keepF seq)) := by
      rw [← g2]; simp [fcs]
    have hlr : (fcs r').length = fs.length := by simp [fcs, g1]
    refine ⟨c + 2, hp'.put k k (.row ty 2 (fcs (fs.filter (keepF seq))) false), ?_, get_put_self g3, fun p hpk hpc => ?_⟩
    · rw [runL_pf (fn := f41) rfl rfl]
      simp only [iv, bv] at g5
      simp at g5
      simp [filt_true, hix, n1, n2, hg, hq, hidx, hn1, hw, g5, clr, g3, hle, hlr, hclr]
    · rw [get_put_ne hpk, g4 p hpk (by omega)]
      have m1 : ¬ (⟨4, ck, 0⟩ : Key) = p := fun e => by have h := congrArg Key.c e; simp only at h; omega
      simp only [HP.get, if_neg m1]
  · have hidx : idxF fs seq = -1 := by unfold idxF; rw [if_neg hx]
    have hfl : fs.filter (keepF seq) = fs := List.filter_eq_self.2 fun a ha => by
      have h0 : (a.1 == seq) = false := by
        rw [Bool.eq_false_iff]; intro h; exact hx (List.any_eq_true.2 ⟨a, ha, h⟩)
      simp only [keepF, bne, h0]; rfl
    rw [hfl]
    refine ⟨ck + 4, (⟨4, ck, 0⟩, .row 77 2 [] false) :: hp, ?_, by simp only [HP.get, if_neg n1]; exact hg, fun p hpk hpc => ?_⟩
    · rw [runL_pf (fn := f41) rfl rfl]
      simp [filt_true, hix, n1, n2, hg, hq, hidx]
    · have m1 : ¬ (⟨4, ck, 0⟩ : Key) = p := fun e => by have h := congrArg Key.c e; simp only at h; omega
      simp only [HP.get, if_neg m1]

theorem told_ret (next : Int) (fs : List Fr) (seq : Int) (hl : fs.length ≤ 100000) : RetT cfg 25 [.ag [iv next, .t (fl fs)], iv seq] (.ag [iv next, .t (fl (fs.filter (keepF seq)))]) := by
  have hcl := fun st k => callEv_tro (C := cfg) (clonef_ret (fs.map fun f => [.i .i64 f.1, .s f.2]) (fcs_two fs) (by simp; omega)) rfl rfl rfl st k
  obtain ⟨c, hp', h1, h2, h3⟩ := delF_run fs seq (by omega) ⟨7, 1, 2⟩ ⟨3, 0, 1⟩ 77 3 (by simp) [(⟨7, 1, 2⟩, .row 77 2 (fcs fs) false), (⟨4, 0, 2⟩, .box 37 [iv 0, .nl]), (⟨3, 0, 1⟩, .box 3 [iv seq]), (⟨2, 0, 0⟩, .box 37 [iv next, .t (fl fs)])] 2 (by simp) (by simp) (by simp) (by simp)
  have hdE := fun (env : Env) (k : Key) => callEv_h (C := cfg) (s := ⟨env, _, 1⟩) rfl h1 k
  have g2 : hp'.get ⟨2, 0, 0⟩ = some (.box 37 [iv next, .t (fl fs)]) := by rw [h3 _ (by simp) (by simp)]; simp
  have g4 : hp'.get ⟨4, 0, 2⟩ = some (.box 37 [iv 0, .nl]) := by rw [h3 _ (by simp) (by simp)]; simp
  have p1 : ∀ o, (hp'.put ⟨2, 0, 0⟩ ⟨2, 0, 0⟩ o).get ⟨2, 0, 0⟩ = some o := fun o => get_put_self g2
  have p2 : ∀ o, (hp'.put ⟨2, 0, 0⟩ ⟨2, 0, 0⟩ o).get ⟨4, 0, 2⟩ = some (.box 37 [iv 0, .nl]) := fun o => by rw [get_put_ne (by simp)]; exact g4
  have p3 : ∀ o o', ((hp'.put ⟨2, 0, 0⟩ ⟨2, 0, 0⟩ o).put ⟨4, 0, 2⟩ ⟨4, 0, 2⟩ o').get ⟨4, 0, 2⟩ = some o' := fun o o' => get_put_self (p2 o)
  have p4 : ∀ o o', ((hp'.put ⟨2, 0, 0⟩ ⟨2, 0, 0⟩ o).put ⟨4, 0, 2⟩ ⟨4, 0, 2⟩ o').get ⟨7, 1, 2⟩ = some (.row 77 2 (fcs (fs.filter (keepF seq))) false) := fun o o' => by
    rw [get_put_ne (by simp), get_put_ne (by simp)]; exact h2
  unfold RetT
  rw [runL_pf (fn := f25) rfl rfl]
  simp only [fl, fcs, iv, bv, List.length_map] at hcl hdE g2 g4 p2
  simp [fl, hcl, hdE, g2, g4, p1, p2, p3, p4, filt_true, over]
  refine ⟨_, _, ⟨rfl, rfl⟩, ?_⟩
  simp only [resOf, resOf1, treesOf]
  rw [treeOf_ow (p4 _ _) (by simp [fcs])]
  simp [treeOf, fl, fcs]
end Go.Proofs.YtccnadleegcobaaGreat.Pv
end

section
/- The library's Index and Contains, of a row of numbers. -/
namespace Go.Proofs.YtccnadleegcobaaGreat.Pv
open Go Go.Pev
theorem index_loop (l : List Int) (x : Int) (hl : l.length ≤ 1000000) : ∀ (k i ck : Nat), i + k = l.length → ∃ c j, 0 ≤ j ∧ evL cfg (.loop f67l0) ⟨[(0, .t (il l)), (1, iv x), (7, iv l.length), (8, iv i)], [], ck⟩ =
    some (if (l.drop i).contains x then (.ret, ⟨[(4, iv j)], [], c⟩) else (.exit 0, ⟨[(0, .t (il l)), (1, iv x), (7, iv l.length), (8, iv l.length), (9, bv false)], [], c⟩)) := by
  intro k
  induction k with
  | zero =>
    intro i ck h
    obtain rfl : i = l.length := by omega
    refine ⟨ck + 1, 0, Int.le_refl _, ?_⟩
    rw [evL_loop]
    simp [f67l0e]
  | succ k ih =>
    intro i ck h
    have hi : i < l.length := by omega
    by_cases hx : l[i] = x
    · refine ⟨ck + 4, i, by omega, ?_⟩
      rw [evL_loop, contains_at hi hx]
      simp [f67l0e, hi, hx]
    · obtain ⟨c, j, hj, hc⟩ := ih (i + 1) (ck + 4) (by omega)
      refine ⟨c, j, hj, ?_⟩
      rw [evL_loop_n (s1 := ⟨[(0, .t (il l)), (1, iv x), (7, iv l.length), (8, iv ((i + 1 : Nat) : Int))], [], ck + 4⟩), hc, contains_not hi hx]
      have hb : (x == l[i]) = false := by simp; exact fun e => hx e.symm
      have hw : IntKind.i64.wrap ((i : Int) + 1) = (i : Int) + 1 := wrap_id (by omega) (by omega)
      simp [f67l0e, hi, hb, hw]

theorem index_ret (l : List Int) (x : Int) (hl : l.length ≤ 1000000) : ∃ j : Int, (0 ≤ j ↔ x ∈ l) ∧ RetT cfg 67 [.t (il l), iv x] (iv j) := by
  obtain ⟨c, j, hj, hc⟩ := index_loop l x hl l.length 0 2 (by omega)
  simp at hc
  by_cases hx : x ∈ l
  · refine ⟨j, by simp [hx, hj], RetT.of ?_⟩
    rw [runL_pf (fn := f67) rfl rfl]
    simp [hx] at hc
    simp [hc]
  · refine ⟨-1, by simp [hx], RetT.of ?_⟩
    rw [runL_pf (fn := f67) rfl rfl]
    simp [hx] at hc
    simp [hc]

theorem contains_ret (l : List Int) (x : Int) (hl : l.length ≤ 1000000) : RetT cfg 44 [.t (il l), iv x] (bv (l.contains x)) := by
  obtain ⟨j, hj, hr⟩ := index_ret l x hl
  have hc := fun s k => callEv_tr (C := cfg) hr rfl rfl rfl s k
  simp only [il, iv] at hc
  refine RetT.of ?_
  rw [runL_pf (fn := f44) rfl rfl]
  by_cases hx : x ∈ l
  · have h0 : 0 ≤ j := hj.2 hx
    simp [hc, hx, h0]
  · have h0 : ¬ 0 ≤ j := fun h => hx (hj.1 h)
    simp [hc, hx, h0]

end Go.Proofs.YtccnadleegcobaaGreat.Pv
end

section
/- Windows: plain words; is a window right? -/
namespace Go.Proofs.YtccnadleegcobaaGreat.Pv
open Go Go.Pev

/-- Numbers that go up, above one, to the last one that may be. -/
def upM : Int → List Int → Bool
  | _, [] => true
  | last, n :: r => decide (last < n) && decide (n ≤ 2147483647) && upM n r
def wright (low : Int) (l : List Int) : Bool := decide (0 ≤ low ∧ low ≤ 2147483647 ∧ l.length ≤ 32) && upM (low - 1) l
theorem upM_at {r : List Int} {j : Nat} (last : Int) (hj : j < r.length) : upM last (r.drop j) = (decide (last < r[j]) && decide (r[j] ≤ 2147483647) && upM r[j] (r.drop (j + 1))) := by
  rw [List.drop_eq_getElem_cons hj]; rfl

theorem wright_loop (r : List Int) (ty : Nat) (bx : List V) (hr : r.length ≤ 1000000) : ∀ (k j : Nat) (last : Int) (ck : Nat), j + k = r.length → ∃ c last', evL cfg (.loop f43l0) ⟨[(1, .pt ⟨1, 0, 0⟩ 2 0 0), (3, iv last), (10, .t (il r)), (11, iv r.length), (12, iv j)], [(⟨1, 0, 0⟩, .box ty bx)], ck⟩ =
    some (if upM last (r.drop j) then (.exit 0, ⟨[(1, .pt ⟨1, 0, 0⟩ 2 0 0), (3, iv last'), (10, .t (il r)), (11, iv r.length), (12, iv r.length), (13, bv false)], [(⟨1, 0, 0⟩, .box ty bx)], c⟩) else (.ret, ⟨[(2, bv false)], [], c⟩)) := by
  intro k
  induction k with
  | zero =>
    intro j last ck h
    obtain rfl : j = r.length := by omega
    refine ⟨ck + 1, last, ?_⟩
    rw [evL_loop]
    simp [f43l0e, upM]
  | succ k ih =>
    intro j last ck h
    have hj : j < r.length := by omega
    have hw : IntKind.i64.wrap ((j : Int) + 1) = (j : Int) + 1 := wrap_id (by omega) (by omega)
    rw [upM_at last hj]
    by_cases h1 : r[j] ≤ last
    · refine ⟨ck + 4, 0, ?_⟩
      have h1' : ¬ last < r[j] := by omega
      rw [evL_loop]
      simp [f43l0e, hj, h1, h1']
    · have h1' : last < r[j] := by omega
      by_cases h2 : 2147483647 < r[j]
      · have h2' : ¬ r[j] ≤ 2147483647 := by omega
        refine ⟨ck + 4, 0, ?_⟩
        rw [evL_loop]
        simp [f43l0e, hj, h1, h1', h2, h2']
      · have h2' : r[j] ≤ 2147483647 := by omega
        obtain ⟨c, last', hc⟩ := ih (j + 1) r[j] (ck + 5) (by omega)
        refine ⟨c, last', ?_⟩
        rw [evL_loop_n (s1 := ⟨[(1, .pt ⟨1, 0, 0⟩ 2 0 0), (3, iv r[j]), (10, .t (il r)), (11, iv r.length), (12, iv ((j + 1 : Nat) : Int))], [(⟨1, 0, 0⟩, .box ty bx)], ck + 5⟩), hc]
        · simp [h1', h2']
        · simp [f43l0e, hj, h1, h2, hw]

theorem wright_ret (low : Int) (l : List Int) (hw : -9223372036854775808 ≤ low ∧ low ≤ 9223372036854775807) (hl : l.length ≤ 1000000) (hn : ∀ n ∈ l, n ≤ 9223372036854775807) : RetT cfg 43 [.ag [iv low, .t (il l)]] (bv (wright low l)) := by
  refine RetT.of ?_
  rw [runL_pf (fn := f43) rfl rfl]
  obtain ⟨c, last', hc⟩ := wright_loop l 40 [iv low, .t (il l)] hl l.length 0 (IntKind.i64.wrap (low - 1)) 3 (by omega)
  simp only [List.drop_zero, il, iv, bv, Int.natCast_zero] at hc
  by_cases h0 : 0 ≤ low
  · have hwr : IntKind.i64.wrap (low - 1) = low - 1 := wrap_id (by omega) (by omega)
    rw [hwr] at hc
    by_cases h1 : upM (low - 1) l = true
    · rw [if_pos h1] at hc
      by_cases h2 : low ≤ 2147483647
      · by_cases h3 : (l.length : Int) ≤ 32
        · have h3' : l.length ≤ 32 := by omega
          simp [hc, hwr, wright, h0, h1, h2, h3, h3']
        · have h3' : ¬ l.length ≤ 32 := by omega
          simp [hc, hwr, wright, h0, h1, h2, h3, h3']
      · simp [hc, hwr, wright, h0, h1, h2]
    · rw [if_neg h1] at hc
      simp [hc, hwr, wright, h1]
  · by_cases h1 : upM (IntKind.i64.wrap (low - 1)) l = true
    · rw [if_pos h1] at hc
      simp [hc, wright, h0]
    · rw [if_neg h1] at hc
      simp [hc, wright, h0]

/-- With one more, in its place. -/
def ins (n : Int) : List Int → List Int
  | [] => [n]
  | x :: r => if n < x then n :: x :: r else x :: ins n r
/-- On, as long as the first one is there. -/
def adv : Int → List Int → Int × List Int
  | low, [] => (low, [])
  | low, x :: r => if x = low then adv (low + 1) r else (low, x :: r)
def over32 (low : Int) (l : List Int) : Int × List Int := if 32 < l.length then (l.getD 0 0 + 1, l.tail) else (low, l)
def acc (low : Int) (l : List Int) (n : Int) : Int × List Int × Bool :=
  if wright low l = true ∧ low ≤ n ∧ n ≤ 2147483647 ∧ ¬ n ∈ l then ((adv (over32 low (ins n l)).1 (over32 low (ins n l)).2).1, (adv (over32 low (ins n l)).1 (over32 low (ins n l)).2).2, true) else (low, l, false)

theorem ins_len (n : Int) : ∀ l, (ins n l).length = l.length + 1
  | [] => rfl
  | x :: r => by
    unfold ins
    split
    · rfl
    · simp [ins_len n r]
theorem ins_perm (n : Int) : ∀ l, (ins n l).Perm (l ++ [n])
  | [] => List.Perm.refl _
  | x :: r => by
    unfold ins
    split
    · exact (List.perm_append_singleton n (x :: r)).symm
    · exact (ins_perm n r).cons x
theorem upM_pair : ∀ (l : List Int) (last : Int), upM last l = true → l.Pairwise (· < ·) ∧ ∀ x ∈ l, last < x ∧ x ≤ 2147483647
  | [], last, _ => ⟨.nil, by simp⟩
  | x :: r, last, h => by
    simp only [upM, Bool.and_eq_true, decide_eq_true_eq] at h
    obtain ⟨⟨h1, h2⟩, h3⟩ := h
    obtain ⟨p1, p2⟩ := upM_pair r x h3
    refine ⟨List.pairwise_cons.2 ⟨fun y hy => (p2 y hy).1, p1⟩, fun y hy => ?_⟩
    rcases List.mem_cons.1 hy with rfl | hy
    · exact ⟨h1, h2⟩
    · have := p2 y hy
      omega
theorem upM_of : ∀ (l : List Int) (last : Int), l.Pairwise (· < ·) → (∀ x ∈ l, last < x ∧ x ≤ 2147483647) → upM last l = true
  | [], _, _, _ => rfl
  | x :: r, last, hp, hm => by
    rw [List.pairwise_cons] at hp
    have := hm x List.mem_cons_self
    simp only [upM, Bool.and_eq_true, decide_eq_true_eq]
    exact ⟨this, upM_of r x hp.2 fun y hy => ⟨hp.1 y hy, (hm y (List.mem_cons_of_mem _ hy)).2⟩⟩
theorem mem_ins {n x : Int} {l : List Int} : x ∈ ins n l ↔ x ∈ l ∨ x = n := by
  rw [(ins_perm n l).mem_iff]; simp
theorem ins_pair {n : Int} : ∀ {l : List Int}, l.Pairwise (· < ·) → ¬ n ∈ l → (ins n l).Pairwise (· < ·)
  | [], _, _ => by simp [ins]
  | x :: r, hp, hn => by
    have hp' := List.pairwise_cons.1 hp
    unfold ins
    split
    · rename_i h
      refine List.pairwise_cons.2 ⟨fun y hy => ?_, hp⟩
      rcases List.mem_cons.1 hy with rfl | hy
      · exact h
      · have := hp'.1 y hy; omega
    · rename_i h
      have hne : n ≠ x := fun e => hn (by rw [e]; exact List.mem_cons_self)
      refine List.pairwise_cons.2 ⟨fun y hy => ?_, ins_pair hp'.2 fun hm => hn (List.mem_cons_of_mem _ hm)⟩
      rcases mem_ins.1 hy with hy | rfl
      · exact hp'.1 y hy
      · omega
theorem srt_ins {n : Int} {l : List Int} (hp : l.Pairwise (· < ·)) (hn : ¬ n ∈ l) : Go.Pev.srt (l ++ [n]) = ins n l := by
  have h1 : (Go.Pev.srt (l ++ [n])).Pairwise (fun a b => decide (a ≤ b) = true) := List.pairwise_mergeSort (by intro a b c h1 h2; simp at *; omega) (by intro a b; simp; omega) _
  have h2 : (Go.Pev.srt (l ++ [n])).Perm (ins n l) := (List.mergeSort_perm _ _).trans (ins_perm n l).symm
  refine h2.eq_of_pairwise (le := fun a b => decide (a ≤ b)) (fun a b _ _ h3 h4 => ?_) h1 ((ins_pair hp hn).imp fun h => ?_)
  · simp at h3 h4; omega
  · simp; omega
end Go.Proofs.YtccnadleegcobaaGreat.Pv
end

section
/- The library's Sort of a row of numbers. -/
namespace Go.Proofs.YtccnadleegcobaaGreat.Pv
open Go Go.Pev
theorem sort_call {l : List Int} {ty : Nat} {k : Key} (h0 : 0 < l.length) (hl : l.length ≤ 1000000) (s : St) (k' : Key) (hg : s.hp.get k = some (.row ty 1 (cl l) false)) : callEv cfg (runL cfg) 46 [.ow k 1 0 l.length] s k' = some (.tu [], s.hp.put k k (.row ty 1 (cl (srt l)) false), s.ck + 3) := by
  have hr : runL cfg 46 [.ow k 1 0 l.length] s.hp (s.ck + 1) = some (.tu [], s.hp.put k k (.row ty 1 (cl (srt l)) false), s.ck + 1 + 1) := by
    rw [runL_ex (p := sortP) rfl]
    unfold sortP
    have hi : intsOf (cl l) = some l := intsOf_map l
    have h1 : l.length = (cl l).length ∧ 0 < l.length ∧ l.length ≤ 140737488355328 := ⟨by simp [cl], h0, by omega⟩
    simp only [hg, hi, if_pos h1]
    rfl
  exact callEv_h rfl hr k'

end Go.Proofs.YtccnadleegcobaaGreat.Pv
end

section
/- Windows: what Accept tells. -/
namespace Go.Proofs.YtccnadleegcobaaGreat.Pv
open Go Go.Pev

theorem adv_loop (L : List Int) (kc ko ty : Nat) (b4 : Ob) (sn p4 : V) (hL : L.length ≤ 1000000) : ∀ (m off ck : Nat) (low : Int) (z : Env), (z = [] ∨ z = [(37, bv false)]) → off + m = L.length → 0 ≤ low → low + m ≤ 3000000000 → ∃ c off' low', adv low (L.drop off) = (low', L.drop off') ∧ off' ≤ L.length ∧ evL cfg (.loop f26l1) ⟨(2, .pt ⟨2, 0, 0⟩ 2 0 0) :: (4, p4) :: (6, .ow ⟨29, kc, ko⟩ 1 off m) :: z, [(⟨29, kc, ko⟩, .row 3 1 (cl L) false), (⟨4, 0, 1⟩, b4), (⟨2, 0, 0⟩, .box ty [iv low, sn])], ck⟩ =
    some (.exit 2, ⟨[(2, .pt ⟨2, 0, 0⟩ 2 0 0), (4, p4), (6, .ow ⟨29, kc, ko⟩ 1 off' (L.length - off')), (55, bv false)], [(⟨29, kc, ko⟩, .row 3 1 (cl L) false), (⟨4, 0, 1⟩, b4), (⟨2, 0, 0⟩, .box ty [iv low', sn])], c⟩) := by
  intro m
  induction m with
  | zero =>
    intro off ck low z hz h h0 hb
    obtain rfl : off = L.length := by omega
    refine ⟨ck + 1, L.length, low, by simp [adv], Nat.le_refl _, ?_⟩
    rw [evL_loop]
    rcases hz with rfl | rfl <;> simp [f26l1e]
  | succ m ih =>
    intro off ck low z hz h h0 hb
    have ho : off < L.length := by omega
    have hm : (0 : Int) < (m : Int) + 1 := by omega
    have hm2 : (1 : Int) ≤ (m : Int) + 1 := by omega
    have hd : L.drop off = L[off] :: L.drop (off + 1) := List.drop_eq_getElem_cons ho
    by_cases he : L[off] = low
    · have heb : (L[off] == low) = true := by simpa using he
      have hw : IntKind.i64.wrap (low + 1) = low + 1 := wrap_id (by omega) (by omega)
      obtain ⟨c, off', low', h1, h2, h3⟩ := ih (off + 1) (ck + 2) (low + 1) [] (.inl rfl) (by omega) (by omega) (by omega)
      refine ⟨c, off', low', by rw [hd]; simp only [adv, he, if_true]; exact h1, h2, ?_⟩
      rw [evL_loop_n (s1 := ⟨[(2, .pt ⟨2, 0, 0⟩ 2 0 0), (4, p4), (6, .ow ⟨29, kc, ko⟩ 1 (off + 1) m)], [(⟨29, kc, ko⟩, .row 3 1 (cl L) false), (⟨4, 0, 1⟩, b4), (⟨2, 0, 0⟩, .box ty [iv (low + 1), sn])], ck + 2⟩), h3]
      rcases hz with rfl | rfl <;> simp [f26l1e, hm, hm2, cl, ho, heb, hw, treesC, treesOf, treeOf, over]
    · have heb : (L[off] == low) = false := by simpa using he
      refine ⟨ck + 1, off, low, by rw [hd]; simp only [adv, he, if_false], by omega, ?_⟩
      rw [evL_loop, show L.length - off = m + 1 by omega]
      rcases hz with rfl | rfl <;> simp [f26l1e, hm, cl, ho, heb]

def accV (r : Int × List Int × Bool) : V := .tu [.ag [iv r.1, .t (il r.2.1)], bv r.2.2]

theorem RetT.of_win {f : Nat} {args : List V} {low : Int} {l : List Int} {b : Bool} (h : ∃ k ty h c, runL cfg f args [] 0 = some (.tu [.ag [iv low, .ow k 1 0 l.length], bv b], h, c) ∧ h.get k = some (.row ty 1 (cl l) false)) : RetT cfg f args (accV (low, l, b)) := by
  obtain ⟨k, ty, h, c, h1, h2⟩ := h
  refine ⟨_, h, c, h1, ?_⟩
  have h3 : treeOf h (.ow k 1 0 l.length) = some (.l (cl l)) := treeOf_ow h2 (by simp [cl])
  have h4 : treesOf h [iv low, .ow k 1 0 l.length] = some [.i .i64 low, .l (cl l)] := by
    simp only [treesOf, h3]; rfl
  simp only [iv] at h4
  simp [resOf, resOfs, resOf1, h4, accV, il, cl]

theorem RetT.of_win0 {f : Nat} {args : List V} {low : Int} {l : List Int} {b : Bool} (h : ∃ h c, runL cfg f args [] 0 = some (.tu [.ag [iv low, .t (il l)], bv b], h, c)) : RetT cfg f args (accV (low, l, b)) := by
  obtain ⟨h, c, h1⟩ := h
  refine ⟨_, h, c, h1, ?_⟩
  simp [resOf, resOfs, resOf1, treesOf, treeOf, accV, iv, bv]

set_option maxHeartbeats 4000000 in
theorem accept_no (low : Int) (l : List Int) (n : Int) (hw : -9223372036854775808 ≤ low ∧ low ≤ 9223372036854775807) (hl : l.length ≤ 1000000) (hn : ∀ n ∈ l, n ≤ 9223372036854775807) (hc : ¬ (wright low l = true ∧ low ≤ n ∧ n ≤ 2147483647 ∧ ¬ n ∈ l)) : RetT cfg 26 [.ag [iv low, .t (il l)], iv n] (accV (low, l, false)) := by
  refine RetT.of_win0 ?_
  have hr := fun s k => callEv_tr (C := cfg) (wright_ret low l hw hl hn) rfl rfl rfl s k
  have hct := fun s k => callEv_tr (C := cfg) (contains_ret l n hl) rfl rfl rfl s k
  simp only [il, iv, bv] at hr hct
  rw [runL_pf (fn := f26) rfl rfl]
  by_cases h1 : wright low l = true
  · rw [h1] at hr
    by_cases h2 : 2147483647 < n
    · simp [hr, h2, over]
    · by_cases h3 : n < low
      · simp [hr, h2, h3, over]
      · have h4 : n ∈ l := by
          apply Classical.byContradiction
          intro h4
          exact hc ⟨h1, by omega, by omega, h4⟩
        have h4' : l.contains n = true := by simpa using h4
        rw [h4'] at hct
        simp [hr, h2, h3, hct, over]
  · have h1' : wright low l = false := by simpa using h1
    rw [h1'] at hr
    simp [hr, over]

theorem acc_len {low n : Int} {l : List Int} (h : wright low l = true) : l.length ≤ 32 := by
  simp only [wright, Bool.and_eq_true, decide_eq_true_eq] at h
  exact h.1.2.2
theorem acc_up {low : Int} {l : List Int} (h : wright low l = true) : 0 ≤ low ∧ low ≤ 2147483647 ∧ l.Pairwise (· < ·) ∧ ∀ x ∈ l, low ≤ x ∧ x ≤ 2147483647 := by
  simp only [wright, Bool.and_eq_true, decide_eq_true_eq] at h
  obtain ⟨h1, h2⟩ := upM_pair l (low - 1) h.2
  exact ⟨h.1.1, h.1.2.1, h1, fun x hx => by have := h2 x hx; omega⟩

set_option maxHeartbeats 8000000 in
theorem accept_yes (low : Int) (l : List Int) (n : Int) (h1 : wright low l = true) (h2 : low ≤ n) (h3 : n ≤ 2147483647) (h4 : ¬ n ∈ l) : RetT cfg 26 [.ag [iv low, .t (il l)], iv n] (accV (acc low l n)) := by
  obtain ⟨u1, u2, u3, u4⟩ := acc_up h1
  have hl := acc_len (n := n) h1
  have hr := fun s k => callEv_tr (C := cfg) (wright_ret low l (by omega) (by omega) (fun x hx => by have := u4 x hx; omega)) rfl rfl rfl s k
  have hct := fun s k => callEv_tr (C := cfg) (contains_ret l n (by omega)) rfl rfl rfl s k
  have h4' : l.contains n = false := by simpa using h4
  have hcl := fun s k => callEv_tro (C := cfg) (clone_ret (cl l) (cl_one l) (by simp [cl]; omega)) rfl rfl rfl s k
  have hso := fun (k : Key) => sort_call (l := l ++ [n]) (ty := 3) (k := k) (by simp) (by simp; omega)
  rw [srt_ins u3 h4] at hso
  rw [h1] at hr
  rw [h4'] at hct
  have hil := ins_len n l
  have hmem : ∀ x ∈ ins n l, 0 ≤ x ∧ x ≤ 2147483647 := fun x hx => by
    rcases mem_ins.1 hx with hx | rfl
    · have := u4 x hx; omega
    · omega
  obtain ⟨L, hL⟩ : ∃ L, L = ins n l := ⟨_, rfl⟩
  have hacc : acc low l n = ((adv (over32 low L).1 (over32 low L).2).1, (adv (over32 low L).1 (over32 low L).2).2, true) := by
    unfold acc
    rw [if_pos ⟨h1, h2, h3, h4⟩, hL]
  rw [hacc]
  rw [← hL] at hil hmem hso
  clear hL hacc
  have n1 : ¬ 2147483647 < n := by omega
  have n2 : ¬ n < low := by omega
  have hb : (l.length + 1) * 8 ≤ 140737488355328 := by omega
  have hfin : ∀ (off : Nat), off ≤ L.length → RetO cfg 45 [.t (.l ((cl L).drop off))] 3 1 (cl (L.drop off)) := fun off ho => by
    have : (cl L).drop off = cl (L.drop off) := by simp [cl, List.map_drop]
    rw [this]
    exact clone_ret (cl (L.drop off)) (cl_one _) (by simp [cl]; omega)
  by_cases h32 : 32 < L.length
  · have hL0 : 0 < L.length := by omega
    have h33 : L.length = 33 := by omega
    have hx0 := hmem _ (List.getElem_mem hL0)
    have hw : IntKind.i64.wrap (L[0] + 1) = L[0] + 1 := wrap_id (by omega) (by omega)
    have hov : over32 low L = (L[0] + 1, L.drop 1) := by
      unfold over32
      rw [if_pos h32]
      simp [hL0]
    rw [hov]
    obtain ⟨c, off', low', a1, a2, a3⟩ := adv_loop L 2 5 40 (.box 40 [iv 0, .nl]) (.t (il l)) (.pt ⟨4, 0, 1⟩ 2 0 0) (by omega) 32 1 10 (L[0] + 1) [(37, bv false)] (.inr rfl) (by omega) (by omega) (by omega)
    rw [a1]
    have hcf := fun (s : St) (k' : Key) => callEv_owo (C := cfg) (k := ⟨29, 2, 5⟩) (ty := 3) (sz := 1) (fz := false) (n := L.length - off') (els := cl L) (hfin off' a2) (by simp [cl]; omega) rfl rfl s k'
    have hl0 : ∀ ck, evL cfg (.loop f26l0) ⟨[(2, .pt ⟨2, 0, 0⟩ 2 0 0), (4, .pt ⟨4, 0, 1⟩ 2 0 0), (6, .ow ⟨29, 2, 5⟩ 1 0 L.length)], [(⟨29, 2, 5⟩, .row 3 1 (cl L) false), (⟨4, 0, 1⟩, .box 40 [iv 0, .nl]), (⟨2, 0, 0⟩, .box 40 [iv low, .t (il l)])], ck⟩ =
        some (.exit 0, ⟨[(2, .pt ⟨2, 0, 0⟩ 2 0 0), (4, .pt ⟨4, 0, 1⟩ 2 0 0), (6, .ow ⟨29, 2, 5⟩ 1 1 32), (37, bv false)], [(⟨29, 2, 5⟩, .row 3 1 (cl L) false), (⟨4, 0, 1⟩, .box 40 [iv 0, .nl]), (⟨2, 0, 0⟩, .box 40 [iv (L[0] + 1), .t (il l)])], ck + 3⟩) := by
      intro ck
      rw [evL_loop_n (s1 := ⟨[(2, .pt ⟨2, 0, 0⟩ 2 0 0), (4, .pt ⟨4, 0, 1⟩ 2 0 0), (6, .ow ⟨29, 2, 5⟩ 1 1 32)], [(⟨29, 2, 5⟩, .row 3 1 (cl L) false), (⟨4, 0, 1⟩, .box 40 [iv 0, .nl]), (⟨2, 0, 0⟩, .box 40 [iv (L[0] + 1), .t (il l)])], ck + 2⟩), evL_loop]
      · simp [f26l0e]
      · simp [f26l0e, h33, cl, hL0, hw, treesC, treesOf, treeOf, over]
    refine RetT.of_win ⟨⟨63, c, 1⟩, 3, [(⟨63, c, 1⟩, .row 3 1 (cl (L.drop off')) false), (⟨4, 0, 1⟩, .box 40 [iv low', .ow ⟨63, c, 1⟩ 1 0 (L.drop off').length])], c + 2, ?_, by simp [HP.get]⟩
    rw [runL_pf (fn := f26) rfl rfl]
    have hll : (l ++ [n]).length = l.length + 1 := by simp
    rw [hll] at hso
    rw [h33] at a3 hcf
    rw [hil] at hl0
    simp only [il, iv, bv, cl] at hr hct hcl hso hl0 a3 hcf
    simp at hcl hso
    simp [hr, hct, hcl, hso, n1, n2, hb, hl0, a3, hcf, h33, over, rowsOf, treesC, treesOf, treeOf, keysOfs, keysOf, freezeAll, freeze1, app, elsOf, cl]
  · have hov : over32 low L = (low, L.drop 0) := by
      unfold over32
      rw [if_neg h32]
      simp
    rw [hov]
    have h32' : ¬ (32 : Int) < (l.length : Int) + 1 := by omega
    obtain ⟨c, off', low', a1, a2, a3⟩ := adv_loop L 2 5 40 (.box 40 [iv 0, .nl]) (.t (il l)) (.pt ⟨4, 0, 1⟩ 2 0 0) (by omega) L.length 0 8 low [(37, bv false)] (.inr rfl) (by omega) (by omega) (by omega)
    rw [a1]
    have hcf := fun (s : St) (k' : Key) => callEv_owo (C := cfg) (k := ⟨29, 2, 5⟩) (ty := 3) (sz := 1) (fz := false) (n := L.length - off') (els := cl L) (hfin off' a2) (by simp [cl]; omega) rfl rfl s k'
    have hl0 : ∀ ck, evL cfg (.loop f26l0) ⟨[(2, .pt ⟨2, 0, 0⟩ 2 0 0), (4, .pt ⟨4, 0, 1⟩ 2 0 0), (6, .ow ⟨29, 2, 5⟩ 1 0 L.length)], [(⟨29, 2, 5⟩, .row 3 1 (cl L) false), (⟨4, 0, 1⟩, .box 40 [iv 0, .nl]), (⟨2, 0, 0⟩, .box 40 [iv low, .t (il l)])], ck⟩ =
        some (.exit 0, ⟨[(2, .pt ⟨2, 0, 0⟩ 2 0 0), (4, .pt ⟨4, 0, 1⟩ 2 0 0), (6, .ow ⟨29, 2, 5⟩ 1 0 L.length), (37, bv false)], [(⟨29, 2, 5⟩, .row 3 1 (cl L) false), (⟨4, 0, 1⟩, .box 40 [iv 0, .nl]), (⟨2, 0, 0⟩, .box 40 [iv low, .t (il l)])], ck + 1⟩) := by
      intro ck
      rw [evL_loop]
      simp [f26l0e, hil, h32']
    refine RetT.of_win ⟨⟨63, c, 1⟩, 3, [(⟨63, c, 1⟩, .row 3 1 (cl (L.drop off')) false), (⟨4, 0, 1⟩, .box 40 [iv low', .ow ⟨63, c, 1⟩ 1 0 (L.drop off').length])], c + 2, ?_, by simp [HP.get]⟩
    rw [runL_pf (fn := f26) rfl rfl]
    have hll : (l ++ [n]).length = l.length + 1 := by simp
    rw [hll] at hso
    rw [hil] at hl0 a3 hcf
    simp only [il, iv, bv, cl] at hr hct hcl hso hl0 a3 hcf
    simp at hcl hso
    simp [hr, hct, hcl, hso, n1, n2, hb, hl0, a3, hcf, over, rowsOf, treesC, treesOf, treeOf, keysOfs, keysOf, freezeAll, freeze1, app, elsOf, cl]
    done
end Go.Proofs.YtccnadleegcobaaGreat.Pv
end

section
/- Windows: what the document's Right and Same tell; Accept, whole. -/
namespace Go.Proofs.YtccnadleegcobaaGreat.Pv
open Go Go.Pev

def I64' (n : Int) : Prop := -9223372036854775808 ≤ n ∧ n ≤ 9223372036854775807

theorem accept_ret (low : Int) (l : List Int) (n : Int) (hw : I64' low) (hl : l.length ≤ 1000000) (hn : ∀ n ∈ l, I64' n) : RetT cfg 26 [.ag [iv low, .t (il l)], iv n] (accV (acc low l n)) := by
  by_cases hc : wright low l = true ∧ low ≤ n ∧ n ≤ 2147483647 ∧ ¬ n ∈ l
  · exact accept_yes low l n hc.1 hc.2.1 hc.2.2.1 hc.2.2.2
  · have : acc low l n = (low, l, false) := by unfold acc; rw [if_neg hc]
    rw [this]
    exact accept_no low l n hw hl (fun x hx => (hn x hx).2) hc

end Go.Proofs.YtccnadleegcobaaGreat.Pv
end

section
/- What port.Send tells. -/
namespace Go.Proofs.YtccnadleegcobaaGreat.Pv
open Go Go.Pev

/-- A port: the next number, the frames nobody told of, the window's low, and what it saw. -/
structure Prt where
  next : Int
  q : List Fr
  low : Int
  seen : List Int
  deriving DecidableEq
def prV (p : Prt) : V := .ag [iv p.next, .t (fl p.q), iv p.low, .t (il p.seen)]

def busyP (next : Int) (q : List Fr) : Prop := ∃ f r, q = f :: r ∧ 32 ≤ next - f.1
instance (next : Int) (q : List Fr) : Decidable (busyP next q) := by
  unfold busyP
  cases q with
  | nil => exact isFalse (by rintro ⟨f, r, h, _⟩; cases h)
  | cons f r => exact if h : 32 ≤ next - f.1 then isTrue ⟨f, r, rfl, h⟩ else isFalse (by rintro ⟨f', r', e, h'⟩; cases e; exact h h')
def sendP (p : Prt) (text : List UInt8) : Prt × List UInt8 × Int :=
  if (pushP p.next p.q text).2.2.2 = 1 then (p, [], 1)
  else if busyP p.next p.q then (p, [], 8)
  else if (pushP p.next p.q text).2.2.2 = 8 then (p, [], 8)
  else ({ p with next := p.next + 1, q := p.q ++ [(p.next, text)] }, packR 68 p.next text, 0)
def sendV (r : Prt × List UInt8 × Int) : V := .tu [prV r.1, .t (.s r.2.1), iv r.2.2]

theorem upF_fst {last next : Int} {f : Fr} {r : List Fr} (h : upF last next (f :: r) = true) : last < f.1 ∧ f.1 < next := by
  simp only [upF, Bool.and_eq_true, decide_eq_true_eq] at h
  exact h.1
set_option maxHeartbeats 4000000 in
theorem send_ret (p : Prt) (text : List UInt8) (hl : p.q.length ≤ 100000) (ht : text.length ≤ 900000) : RetT cfg 9 [prV p, .t (.s text)] (sendV (sendP p text)) := by
  obtain ⟨next, q, low, seen⟩ := p
  have hp := fun st k => callEv_tr (C := cfg) (push_ret next q text hl) rfl rfl rfl st k
  unfold RetT prV sendP
  simp only at hl
  rw [runL_pf (fn := f9) rfl rfl]
  simp only [pushV, fl, iv] at hp
  unfold pushP at hp ⊢
  by_cases h1 : lright next q = false ∨ next = 2147483647
  · rw [if_pos h1] at hp ⊢
    simp [fl, hp, over]
    refine ⟨_, _, ⟨rfl, rfl⟩, ?_⟩
    simp [sendV, prV, resOf, resOfs, resOf1, treesOf, treeOf, fl]
  rw [if_neg h1] at hp ⊢
  have hb : 0 ≤ next ∧ next ≤ 2147483647 := by
    have h1 : lright next q = true := by
      cases h : lright next q with
      | true => rfl
      | false => exact absurd (.inl h) h1
    simp only [lright, Bool.and_eq_true, decide_eq_true_eq] at h1; omega
  have hu : upF (-1) next q = true := by
    have h1 : lright next q = true := by
      cases h : lright next q with
      | true => rfl
      | false => exact absurd (.inl h) h1
    simp only [lright, Bool.and_eq_true] at h1; exact h1.2
  have hbusy : ∀ f r, q = f :: r → IntKind.i64.wrap (next - f.1) = next - f.1 := fun f r e => by
    subst e
    have := upF_fst hu
    exact wrap_id (by omega) (by omega)
  have hpk := fun st k => callEv_tr (C := cfg) (pack_ret 68 next text ht) rfl rfl rfl st k
  simp only [iv] at hpk
  simp at hpk
  by_cases h2 : busyP next q
  · obtain ⟨f, r, rfl, hge⟩ := h2
    have hbs : busyP next (f :: r) := ⟨f, r, rfl, hge⟩
    have hw := hbusy f r rfl
    have hlen : 0 < r.length + 1 := by omega
    by_cases h3 : (f :: r).length = 64
    · rw [if_pos h3] at hp ⊢
      rw [if_neg (by simp), if_pos hbs]
      simp at hp
      simp [fl, hp, over, hw, hge]
      refine ⟨_, _, ⟨rfl, rfl⟩, ?_⟩
      simp [sendV, prV, resOf, resOfs, resOf1, treesOf, treeOf, fl]
    · rw [if_neg h3] at hp ⊢
      rw [if_neg (by simp), if_pos hbs]
      simp at hp
      simp [fl, hp, over, hw, hge]
      refine ⟨_, _, ⟨rfl, rfl⟩, ?_⟩
      simp [sendV, prV, resOf, resOfs, resOf1, treesOf, treeOf, fl]
  · have hnb : ∀ f r, q = f :: r → next - f.1 < 32 := fun f r e => by
      by_cases h : 32 ≤ next - f.1
      · exact absurd ⟨f, r, e, h⟩ h2
      · omega
    by_cases h3 : q.length = 64
    · rw [if_pos h3] at hp ⊢
      rw [if_neg (by simp), if_neg h2, if_pos rfl]
      cases q with
      | nil => simp at h3
      | cons f r =>
        have hw := hbusy f r rfl
        have hd : ¬ 32 ≤ next - f.1 := by have := hnb f r rfl; omega
        simp at hp
        simp [fl, hp, over, hw, hd]
        refine ⟨_, _, ⟨rfl, rfl⟩, ?_⟩
        simp [sendV, prV, resOf, resOfs, resOf1, treesOf, treeOf, fl]
    · rw [if_neg h3] at hp ⊢
      rw [if_neg (by simp), if_neg h2, if_neg (by simp)]
      cases q with
      | nil =>
        simp at hp
        simp [fl, hp, hpk, over]
        refine ⟨_, _, ⟨rfl, rfl⟩, ?_⟩
        simp [sendV, prV, resOf, resOfs, resOf1, treesOf, treeOf, fl]
      | cons f r =>
        have hw := hbusy f r rfl
        have hd : ¬ 32 ≤ next - f.1 := by have := hnb f r rfl; omega
        simp at hp
        simp [fl, hp, hpk, over, hw, hd]
        refine ⟨_, _, ⟨rfl, rfl⟩, ?_⟩
        simp [sendV, prV, resOf, resOfs, resOf1, treesOf, treeOf, fl]
end Go.Proofs.YtccnadleegcobaaGreat.Pv
end

section
/- What port.Receive and port.Again tell. -/
namespace Go.Proofs.YtccnadleegcobaaGreat.Pv
open Go Go.Pev

def recvP (p : Prt) (s : List UInt8) : Prt × List UInt8 × Bool × List UInt8 × Int :=
  if (unpackP s).2.2.2 ≠ 0 then (p, [], false, [], (unpackP s).2.2.2)
  else if (unpackP s).1 = 65 then ({ p with q := p.q.filter (keepF (unpackP s).2.1) }, [], false, [], 0)
  else if (acc p.low p.seen (unpackP s).2.1).2.2 = true then ({ p with low := (acc p.low p.seen (unpackP s).2.1).1, seen := (acc p.low p.seen (unpackP s).2.1).2.1 }, (unpackP s).2.2.1, true, packR 65 (unpackP s).2.1 [], 0)
  else (p, [], false, packR 65 (unpackP s).2.1 [], 0)
def recvV (r : Prt × List UInt8 × Bool × List UInt8 × Int) : V := .tu [prV r.1, .t (.s r.2.1), bv r.2.2.1, .t (.s r.2.2.2.1), iv r.2.2.2.2]

set_option maxHeartbeats 4000000 in
theorem recv_ret (p : Prt) (s : List UInt8) (hl : p.q.length ≤ 100000) (hs : s.length ≤ 100000) (hlow : I64' p.low) (hsl : p.seen.length ≤ 1000000) (hn : ∀ n ∈ p.seen, I64' n) : RetT cfg 10 [prV p, .t (.s s)] (recvV (recvP p s)) := by
  obtain ⟨next, q, low, seen⟩ := p
  simp only at hl hlow hsl hn
  have hu := fun st k => callEv_tr (C := cfg) (unpack_ret s hs) rfl rfl rfl st k
  unfold RetT prV recvP
  rw [runL_pf (fn := f10) rfl rfl]
  generalize unpackP s = u at *
  obtain ⟨k, n, t, e⟩ := u
  simp only [unpV] at hu
  simp at hu
  by_cases he : e = 0
  case neg =>
    have de : (e != 0) = true := by simp [bne, he]
    simp [hu, he, de, fl, over]
    refine ⟨_, _, ⟨rfl, rfl⟩, ?_⟩
    simp [recvV, prV, resOf, resOfs, resOf1, treesOf, treeOf, fl]
  subst he
  have ht := fun st k => callEv_tr (C := cfg) (told_ret next q n hl) rfl rfl rfl st k
  simp only [fl, iv] at ht
  have ek := k65 k
  by_cases hk : k = 65
  · subst hk
    simp [hu, ht, fl, over, (show ((65 : UInt8).toNat : Int) = 65 from rfl)]
    refine ⟨_, _, ⟨rfl, rfl⟩, ?_⟩
    simp [recvV, prV, resOf, resOfs, resOf1, treesOf, treeOf, fl]
  have dk : ((k.toNat : Int) == 65) = false := by rw [ek]; exact decide_eq_false hk
  have hpk := fun st kk => callEv_tr (C := cfg) (pack_ret 65 n [] (by simp)) rfl rfl rfl st kk
  have ha := fun st kk => callEv_tr (C := cfg) (accept_ret low seen n hlow hsl hn) rfl rfl rfl st kk
  simp only [iv] at hpk
  simp at hpk
  generalize acc low seen n = r at *
  obtain ⟨lo', se', ok⟩ := r
  simp only [accV, il, iv, bv] at ha
  generalize hkn : k.toNat = kn at *
  cases ok with
  | true =>
    simp [hu, hpk, ha, fl, il, over, dk, hk]
    refine ⟨_, _, ⟨rfl, rfl⟩, ?_⟩
    simp [recvV, prV, resOf, resOfs, resOf1, treesOf, treeOf, fl, il]
  | false =>
    simp [hu, hpk, ha, fl, il, over, dk, hk]
    refine ⟨_, _, ⟨rfl, rfl⟩, ?_⟩
    simp [recvV, prV, resOf, resOfs, resOf1, treesOf, treeOf, fl, il]
end Go.Proofs.YtccnadleegcobaaGreat.Pv
end

section
/- Windows: what the document's Accept tells: just what the program's does. -/
namespace Go.Proofs.YtccnadleegcobaaGreat.Pv
open Go Go.Pev

theorem RetT.of_winx {f : Nat} {args : List V} {low : Int} {L : List Int} {off : Nat} {b : Bool} (ho : off ≤ L.length) (h : ∃ k ty h c, runL cfg f args [] 0 = some (.tu [.ag [iv low, .ow k 1 off (L.length - off)], bv b], h, c) ∧ h.get k = some (.row ty 1 (cl L) false)) : RetT cfg f args (accV (low, L.drop off, b)) := by
  obtain ⟨k, ty, h, c, h1, h2⟩ := h
  refine ⟨_, h, c, h1, ?_⟩
  have h3 : treeOf h (.ow k 1 off (L.length - off)) = some (.l (cl (L.drop off))) := by
    have h5 : off + (L.length - off) ≤ L.length := by omega
    have h6 : ((cl L).drop off).take (L.length - off) = cl (L.drop off) := by
      rw [List.take_of_length_le (by simp [cl])]
      simp [cl, List.map_drop]
    have h7 : off + (L.length - off) ≤ (cl L).length := by simpa [cl] using h5
    simp [treeOf, h2, h7, h6]
  have h4 : treesOf h [iv low, .ow k 1 off (L.length - off)] = some [.i .i64 low, .l (cl (L.drop off))] := by
    simp only [treesOf, h3]; rfl
  simp only [iv] at h4
  simp [resOf, resOfs, resOf1, h4, accV, il, cl]

end Go.Proofs.YtccnadleegcobaaGreat.Pv
end

section
/- The port's calls, and the fixed answer. -/
namespace Go.Proofs.YtccnadleegcobaaGreat.Pv
open Go Go.Pev

/-- A slice, or nil for an empty one. -/
def Nv (t : T) (v : V) : Prop := v = .t t ∨ (v = .nl ∧ t = .l [])
theorem ports_pure {p : Prt} {v1 v2 : V} (h1 : Nv (fl p.q) v1) (h2 : Nv (il p.seen) v2) (t : T) (h : HP) : puresOf h [.ag [iv p.next, v1, iv p.low, v2], .t t] = some [prV p, .t t] ∧ [V.ag [iv p.next, v1, iv p.low, v2], .t t].flatMap (keysOf h) = [] := by
  rcases h1 with rfl | ⟨rfl, e1⟩ <;> rcases h2 with rfl | ⟨rfl, e2⟩ <;> constructor <;> (try have e2' := List.map_eq_nil_iff.1 (T.l.inj e2)) <;> simp [puresOf, pureOf, treesOf, treeOf, prV, iv, keysOf, keysOf1, *]
theorem port_pure {p : Prt} {v1 v2 : V} (h1 : Nv (fl p.q) v1) (h2 : Nv (il p.seen) v2) (h : HP) : puresOf h [.ag [iv p.next, v1, iv p.low, v2]] = some [prV p] ∧ [V.ag [iv p.next, v1, iv p.low, v2]].flatMap (keysOf h) = [] := by
  rcases h1 with rfl | ⟨rfl, e1⟩ <;> rcases h2 with rfl | ⟨rfl, e2⟩ <;> constructor <;> (try have e2' := List.map_eq_nil_iff.1 (T.l.inj e2)) <;> simp [puresOf, pureOf, treesOf, treeOf, prV, iv, keysOf, keysOf1, *]
theorem send_call {p : Prt} {v1 v2 : V} (h1 : Nv (fl p.q) v1) (h2 : Nv (il p.seen) v2) (text : List UInt8) (hl : p.q.length ≤ 100000) (ht : text.length ≤ 900000) (s : St) (k : Key) : callEv cfg (runL cfg) 9 [.ag [iv p.next, v1, iv p.low, v2], .t (.s text)] s k = some (sendV (sendP p text), s.hp, s.ck) :=
  callEv_t rfl rfl (ports_pure h1 h2 _ s.hp).1 (send_ret p text hl ht) (.inr (ports_pure h1 h2 _ s.hp).2)
theorem recv_call {p : Prt} {v1 v2 : V} (h1 : Nv (fl p.q) v1) (h2 : Nv (il p.seen) v2) (t : List UInt8) (hl : p.q.length ≤ 100000) (hs : t.length ≤ 100000) (hlow : I64' p.low) (hsl : p.seen.length ≤ 1000000) (hn : ∀ n ∈ p.seen, I64' n) (s : St) (k : Key) : callEv cfg (runL cfg) 10 [.ag [iv p.next, v1, iv p.low, v2], .t (.s t)] s k = some (recvV (recvP p t), s.hp, s.ck) :=
  callEv_t rfl rfl (ports_pure h1 h2 _ s.hp).1 (recv_ret p t hl hs hlow hsl hn) (.inr (ports_pure h1 h2 _ s.hp).2)

def p0 : Prt := ⟨0, [], 0, []⟩
theorem packR_ok {kind : UInt8} {seq : Int} {t : List UInt8} (h : packOk kind seq t) : packR kind seq t = packB kind seq.toNat t := by
  unfold packR; rw [if_pos h]
theorem recv_data {p : Prt} {seq : Int} {t : List UInt8} (h : 0 ≤ seq ∧ seq ≤ 2147483647) : recvP p (packR 68 seq t) = if (acc p.low p.seen seq).2.2 = true then ({ p with low := (acc p.low p.seen seq).1, seen := (acc p.low p.seen seq).2.1 }, t, true, packR 65 seq [], 0) else (p, [], false, packR 65 seq [], 0) := by
  have hok : packOk 68 seq t := ⟨.inl rfl, h.1, h.2⟩
  unfold recvP
  rw [packR_ok hok, unpack_pack hok]
  simp
theorem recv_told {p : Prt} {seq : Int} (h : 0 ≤ seq ∧ seq ≤ 2147483647) : recvP p (packR 65 seq []) = ({ p with q := p.q.filter (keepF seq) }, [], false, [], 0) := by
  have hok : packOk 65 seq [] := ⟨.inr ⟨rfl, rfl⟩, h.1, h.2⟩
  unfold recvP
  rw [packR_ok hok, unpack_pack hok]
  simp
theorem packR_len {kind : UInt8} {seq : Int} {t : List UInt8} : (packR kind seq t).length ≤ 9 + t.length := by
  unfold packR
  split
  · rw [packB_len]; omega
  · simp

end Go.Proofs.YtccnadleegcobaaGreat.Pv
end

section
/- Windows, plainly. -/
namespace Go.Proofs.YtccnadleegcobaaGreat.Pv
open Go Go.Pev
theorem adv_is : ∀ (l : List Int) (low : Int), l.Pairwise (· < ·) → (∀ x ∈ l, low ≤ x) → low ≤ (adv low l).1 ∧ (adv low l).2.Pairwise (· < ·) ∧ (∀ x ∈ (adv low l).2, (adv low l).1 < x) ∧ (∀ x ∈ (adv low l).2, x ∈ l) ∧ (∀ x, x < (adv low l).1 → x < low ∨ x ∈ l) ∧ (∀ x ∈ l, x < (adv low l).1 ∨ x ∈ (adv low l).2) ∧ (adv low l).2.length ≤ l.length
  | [], low, _, _ => by simp [adv]
  | y :: r, low, hp, hm => by
    have hp' := List.pairwise_cons.1 hp
    by_cases h : y = low
    · subst h
      obtain ⟨a1, a2, a3, a4, a5, a6, a7⟩ := adv_is r (y + 1) hp'.2 (fun x hx => by have := hp'.1 x hx; omega)
      simp only [adv, if_true]
      refine ⟨by omega, a2, a3, fun x hx => List.mem_cons_of_mem _ (a4 x hx), fun x hx => ?_, fun x hx => ?_, by simp; omega⟩
      · rcases a5 x hx with h | h
        · by_cases e : x = y
          · exact .inr (by rw [e]; exact List.mem_cons_self)
          · exact .inl (by omega)
        · exact .inr (List.mem_cons_of_mem _ h)
      · rcases List.mem_cons.1 hx with rfl | hx
        · exact .inl (by omega)
        · exact a6 x hx
    · simp only [adv, h, if_false]
      have hy := hm y List.mem_cons_self
      exact ⟨Int.le_refl _, hp, fun x hx => by
        rcases List.mem_cons.1 hx with rfl | hx
        · omega
        · have := hp'.1 x hx; omega, fun x hx => hx, fun x hx => .inl hx, fun x hx => .inr hx, Nat.le_refl _⟩

/-- A right window, all of it up to a bound. -/
def WIs (B : Int) (low : Int) (l : List Int) : Prop := 0 ≤ low ∧ low ≤ B + 1 ∧ l.Pairwise (· < ·) ∧ (∀ x ∈ l, low ≤ x ∧ x ≤ B) ∧ l.length ≤ 32
theorem WIs.right {B low : Int} {l : List Int} (h : WIs B low l) (hB : B < 2147483647) : wright low l = true := by
  obtain ⟨h1, h2, h3, h4, h5⟩ := h
  simp only [wright, Bool.and_eq_true, decide_eq_true_eq]
  exact ⟨⟨h1, by omega, h5⟩, upM_of l (low - 1) h3 fun x hx => by have := h4 x hx; omega⟩
/-- One more is taken just if it did not come: and then it came. -/
theorem acc_is {B low n : Int} {l : List Int} (h : WIs B low l) (hB : B < 2147483647) (h0 : 0 ≤ n) (hn : n ≤ B) :
    (acc low l n).2.2 = decide (¬ (n < low ∨ n ∈ l)) ∧ WIs B (acc low l n).1 (acc low l n).2.1 ∧ (∀ x, x < low ∨ x ∈ l → x < (acc low l n).1 ∨ x ∈ (acc low l n).2.1) ∧ (n < (acc low l n).1 ∨ n ∈ (acc low l n).2.1) ∧
    ((∀ x ∈ l, low < x) → ∀ x ∈ (acc low l n).2.1, (acc low l n).1 < x) ∧ (l.length < 32 → ∀ x, x < (acc low l n).1 ∨ x ∈ (acc low l n).2.1 → x < low ∨ x ∈ l ∨ x = n) := by
  have hr := h.right hB
  obtain ⟨h1, h2, h3, h4, h5⟩ := h
  unfold acc
  by_cases hc : low ≤ n ∧ ¬ n ∈ l
  · rw [if_pos ⟨hr, hc.1, by omega, hc.2⟩]
    have hip := ins_pair h3 hc.2
    have him : ∀ x ∈ ins n l, low ≤ x ∧ x ≤ B := fun x hx => by
      rcases mem_ins.1 hx with hx | rfl
      · exact h4 x hx
      · omega
    have hil := ins_len n l
    have hov : ∃ L, (over32 low (ins n l)).2 = L ∧ L.Pairwise (· < ·) ∧ (∀ x ∈ L, (over32 low (ins n l)).1 ≤ x ∧ x ≤ B) ∧ L.length ≤ 32 ∧ low ≤ (over32 low (ins n l)).1 ∧ (over32 low (ins n l)).1 ≤ B + 1 ∧ (∀ x ∈ ins n l, x < (over32 low (ins n l)).1 ∨ x ∈ L) ∧ (l.length < 32 → (over32 low (ins n l)).1 = low ∧ L = ins n l) := by
      refine ⟨_, rfl, ?_⟩
      unfold over32
      by_cases h32 : 32 < (ins n l).length
      · rw [if_pos h32]
        cases hI : ins n l with
        | nil => rw [hI] at h32; simp at h32
        | cons y r =>
          rw [hI] at hip him hil h32
          have hp' := List.pairwise_cons.1 hip
          have hy := him y List.mem_cons_self
          simp only [List.getD_cons_zero, List.tail_cons]
          refine ⟨hp'.2, fun x hx => ?_, by simp at hil; omega, by omega, by omega, fun x hx => ?_, fun hl => by simp at hil h32; omega⟩
          · have := hp'.1 x hx
            have := him x (List.mem_cons_of_mem _ hx)
            omega
          · rcases List.mem_cons.1 hx with rfl | hx
            · exact .inl (by omega)
            · exact .inr hx
      · rw [if_neg h32]
        exact ⟨hip, him, by simp only; omega, Int.le_refl _, by simp only; omega, fun x hx => .inr hx, fun _ => ⟨rfl, rfl⟩⟩
    obtain ⟨L, hL, o1, o2, o3, o4, o5, o6, o7⟩ := hov
    rw [hL]
    generalize (over32 low (ins n l)).1 = lo at o2 o4 o5 o6 o7
    obtain ⟨a1, a2, a3, a4, a5, a6, a7⟩ := adv_is L lo o1 (fun x hx => (o2 x hx).1)
    refine ⟨by simp; omega, ⟨by simp only; omega, ?_, a2, fun x hx => ⟨by have := a3 x hx; simp only; omega, (o2 x (a4 x hx)).2⟩, by simp only; omega⟩, fun x hx => ?_, ?_, fun _ => a3, fun hl x hx => ?_⟩
    · simp only
      by_cases hlt : (adv lo L).1 ≤ lo
      · omega
      · have := a5 ((adv lo L).1 - 1) (by omega)
        rcases this with h | h
        · omega
        · have := o2 _ h; omega
    · rcases hx with hx | hx
      · exact .inl (by simp only; omega)
      · rcases o6 x (mem_ins.2 (.inl hx)) with h | h
        · exact .inl (by simp only; omega)
        · exact a6 x h
    · rcases o6 n (mem_ins.2 (.inr rfl)) with h | h
      · exact .inl (by simp only; omega)
      · exact a6 n h
    · obtain ⟨e1, e2⟩ := o7 hl
      have hin : ∀ x, x ∈ L → x ∈ l ∨ x = n := fun x hx => by rw [e2] at hx; exact mem_ins.1 hx
      rcases hx with hx | hx
      · rcases a5 x hx with h | h
        · exact .inl (by omega)
        · exact .inr (hin x h)
      · exact .inr (hin x (a4 x hx))
  · rw [if_neg (fun h => hc ⟨h.2.1, h.2.2.2⟩)]
    have hd : n < low ∨ n ∈ l := by
      by_cases hn : n ∈ l
      · exact .inr hn
      · refine .inl (Classical.byContradiction fun h => hc ⟨by omega, hn⟩)
    exact ⟨by simp [hd], ⟨h1, h2, h3, h4, h5⟩, fun x hx => hx, hd, fun h => h, fun _ x hx => hx.imp id .inl⟩

end Go.Proofs.YtccnadleegcobaaGreat.Pv
end

section
/- Loops, by what stays; the library's IndexFunc and ContainsFunc, of rows of any kind. -/
namespace Go.Proofs.YtccnadleegcobaaGreat.Pv
open Go Go.Pev

/-- What one round may come to: on with it, or out. -/
def Step (E : Option (Ex × St)) (N : St → Prop) (Q : Option (Ex × St) → Prop) : Prop := match E with
  | some (.normal, s) => N s
  | some (e, s) => Q (some (e, s))
  | none => False
theorem step_n (s : St) (N : St → Prop) (Q : Option (Ex × St) → Prop) : Step (some (.normal, s)) N Q = N s := id rfl
theorem step_e (i : Nat) (s : St) (N : St → Prop) (Q : Option (Ex × St) → Prop) : Step (some (.exit i, s)) N Q = Q (some (.exit i, s)) := id rfl
theorem step_r (s : St) (N : St → Prop) (Q : Option (Ex × St) → Prop) : Step (some (.ret, s)) N Q = Q (some (.ret, s)) := id rfl
@[congr] theorem step_congr {E E' : Option (Ex × St)} {N : St → Prop} {Q : Option (Ex × St) → Prop} (h : E = E') : Step E N Q = Step E' N Q := by rw [h]
attribute [simp] step_n step_e step_r

theorem loop_q {C : Cfg} {l : Pc} {Q : Option (Ex × St) → Prop} (n : Nat) (P : Nat → St → Prop)
    (hs : ∀ i s, i < n → P i s → Step (evL C l s) (P (i + 1)) Q) (he : ∀ s, P n s → Step (evL C l s) (fun _ => False) Q) (s : St) (h : P 0 s) : Q (evL C (.loop l) s) := by
  have key : ∀ k i s, i + k = n → P i s → Q (evL C (.loop l) s) := by
    intro k
    induction k with
    | zero =>
      intro i s hi hp
      have hi' : i = n := by omega
      subst hi'
      have h1 := he s hp
      cases hE : evL C l s with
      | none => rw [hE] at h1; exact h1.elim
      | some r =>
        obtain ⟨e, s'⟩ := r
        rw [hE] at h1
        cases e with
        | normal => exact h1.elim
        | exit j => rw [evL_loop_x hE (by simp)]; exact h1
        | ret => rw [evL_loop_x hE (by simp)]; exact h1
    | succ k ih =>
      intro i s hi hp
      have h1 := hs i s (by omega) hp
      cases hE : evL C l s with
      | none => rw [hE] at h1; exact h1.elim
      | some r =>
        obtain ⟨e, s'⟩ := r
        rw [hE] at h1
        cases e with
        | normal => rw [evL_loop_n hE]; exact ih (i + 1) s' (by omega) h1
        | exit j => rw [evL_loop_x hE (by simp)]; exact h1
        | ret => rw [evL_loop_x hE (by simp)]; exact h1
  exact key n 0 s (by omega) h

/-- What a run tells. -/
def RetR (E : Option (V × HP × Nat)) (x : V) : Prop := match E with
  | some (r, h, _) => resOf h r = some x
  | none => False
theorem retR_some (r : V) (h : HP) (c : Nat) (x : V) : RetR (some (r, h, c)) x = (resOf h r = some x) := id rfl
@[congr] theorem retR_congr {E E' : Option (V × HP × Nat)} {x : V} (h : E = E') : RetR E x = RetR E' x := by rw [h]
attribute [simp] retR_some
theorem retT_r {C : Cfg} {f : Nat} {args : List V} {x : V} : RetT C f args x ↔ RetR (runL C f args [] 0) x := by
  constructor
  · rintro ⟨r, h, c, h1, h2⟩
    rw [h1]; exact h2
  · intro h
    cases hE : runL C f args [] 0 with
    | none => rw [hE] at h; exact h.elim
    | some y =>
      obtain ⟨r, hh, c⟩ := y
      rw [hE] at h
      exact ⟨r, hh, c, hE, h⟩

/-- The first place where it holds; -1: nowhere. -/
def fidx {α : Type} (p : α → Bool) : List α → Int
  | [] => -1
  | x :: r => if p x then 0 else if fidx p r < 0 then -1 else fidx p r + 1
theorem fidx_neg {α : Type} (p : α → Bool) : ∀ l : List α, fidx p l < 0 ↔ l.any p = false
  | [] => by simp [fidx]
  | x :: r => by
    have ih := fidx_neg p r
    unfold fidx
    by_cases h : p x = true
    · simp [h]
    · have h' : p x = false := by simpa using h
      rw [if_neg h]
      by_cases h2 : fidx p r < 0
      · rw [if_pos h2]; simp [h', ih.1 h2]
      · rw [if_neg h2]
        have : ¬ (r.any p = false) := fun e => h2 (ih.2 e)
        simp [h', this]; omega
theorem fidx_ge {α : Type} (p : α → Bool) (l : List α) : -1 ≤ fidx p l := by
  cases l with
  | nil => simp [fidx]
  | cons x r => unfold fidx; split; · omega
                split <;> omega
/-- As far as the i-th place it held nowhere. -/
theorem fidx_at {α : Type} (p : α → Bool) : ∀ (l : List α) (i : Nat) (h : i < l.length), (∀ (j : Nat) (hj : j < i), p (l[j]'(by omega)) = false) → p l[i] = true → fidx p l = i
  | x :: r, 0, h, _, h2 => by simp at h2; simp [fidx, h2]
  | x :: r, i + 1, h, h1, h2 => by
    have h0 := h1 0 (by omega)
    simp at h0
    have ih := fidx_at p r i (by simpa using h) (fun j hj => by have := h1 (j + 1) (by omega); simpa using this) (by simpa using h2)
    unfold fidx
    rw [if_neg (by simp [h0]), ih, if_neg (by omega)]
    omega
theorem fidx_none {α : Type} (p : α → Bool) (l : List α) (h : ∀ (j : Nat) (hj : j < l.length), p l[j] = false) : fidx p l = -1 := by
  have : l.any p = false := by
    rw [List.any_eq_false]
    intro x hx
    obtain ⟨j, hj, rfl⟩ := List.getElem_of_mem hx
    simp [h j hj]
  have h1 := (fidx_neg p l).2 this
  have h2 := fidx_ge p l
  omega
/-! ### IndexFunc -/
def ixo0 : List (Nat × Pop) := [(0, ⟨some 4, .mv (.c (.t (.i .i64 0))), none⟩)]
def ixo1 : List (Nat × Pop) := [(0, ⟨some 6, .mv (.tmp 0), none⟩), (1, ⟨some 7, .lenL (.tmp 6), none⟩), (2, ⟨some 8, .mv (.c (.t (.i .i64 0))), none⟩)]
def ixo2 : List (Nat × Pop) := [(0, ⟨some 9, .bin .lss (.tmp 8) (.tmp 7), none⟩)]
def ixo3 : List (Nat × Pop) := [(0, ⟨some 10, .mv (.tmp 8), none⟩), (1, ⟨some 5, .mv (.tmp 10), none⟩)]
def ixo4 (ag : Bool) (sz : Nat) : List (Nat × Pop) := [(0, ⟨some 11, .mv (.tmp 1), none⟩), (1, ⟨some 12, .mv (.tmp 0), none⟩), (2, ⟨some 13, .mv (.tmp 5), none⟩), (3, ⟨some 14, .ixS sz (.tmp 12) (.tmp 13), none⟩), (4, ⟨some 15, .load ag sz (.tmp 14), none⟩), (5, ⟨some 16, .callv (.tmp 11) [.tmp 15], none⟩)]
def ixo5 : List (Nat × Pop) := [(0, ⟨some 17, .mv (.tmp 5), none⟩), (1, ⟨some 4, .mv (.tmp 17), none⟩)]
def ixo6 : List (Nat × Pop) := [(0, ⟨some 18, .bin .add (.tmp 8) (.c (.t (.i .i64 1))), none⟩), (1, ⟨some 8, .mv (.tmp 18), none⟩)]
def ixo7 : List (Nat × Pop) := [(0, ⟨some 4, .mv (.c (.t (.i .i64 (-1)))), none⟩)]
def ixl (ag : Bool) (sz : Nat) : Pc := .seq (.reg ixo2 [0, 1, 7, 8, 9] []) (.seq (.cond (.tmp 9) .skip (.exit 0)) (.seq (.block 1 (.seq (.reg ixo3 [0, 1, 5, 7, 8] []) (.seq (.reg (ixo4 ag sz) [0, 1, 5, 7, 8, 16] []) (.cond (.tmp 16) (.seq (.reg ixo5 [4] []) .ret) .skip)))) (.reg ixo6 [0, 1, 7, 8] [])))
def ixfF (ag : Bool) (sz : Nat) : Pfn := ⟨2, 19, [.tmp 4], .seq (.reg ixo0 [0, 1] []) (.seq (.seq (.reg ixo1 [0, 1, 7, 8] []) (.block 0 (.loop (ixl ag sz)))) (.seq (.reg ixo7 [4] []) .ret))⟩

section
variable {C : Cfg}
variable {α : Type}
def ixP (g : Nat) (caps : List V) (mk : α → List T) (xs : List α) (p : α → Bool) (i : Nat) (s : St) : Prop := (∀ (j : Nat) (hj : j < xs.length), j < i → p xs[j] = false) ∧ ∃ ck, s = ⟨[(0, .t (.l (xs.map mk))), (1, .fn g caps), (7, .t (.i .i64 xs.length)), (8, .t (.i .i64 (i : Int)))], [], ck⟩
def ixQ (xs : List α) (p : α → Bool) (E : Option (Ex × St)) : Prop := (∃ e c, E = some (.exit 0, ⟨e, [], c⟩) ∧ fidx p xs = -1) ∨ (∃ c, E = some (.ret, ⟨[(4, .t (.i .i64 (fidx p xs)))], [], c⟩))
theorem ixf_run {f g : Nat} {caps : List V} {ag : Bool} {sz : Nat} (mk : α → List T) {xs : List α} (p : α → Bool) (arg : α → V) (hpf : C.pf f = some (ixfF ag sz)) (hex : C.ex f = none) (hsz : ∀ a ∈ xs, (mk a).length = sz) (hld : ∀ a ∈ xs, loadOf ag sz ((mk a).map .t) = some (arg a)) (hl : xs.length ≤ 1000000)
    (hp : ∀ a ∈ xs, ∀ (s : St) (k : Key), s.hp = [] → ∃ ck', callEv C (runL C) g (arg a :: caps) s k = some (.t (.b (p a)), [], ck')) : RetT C f [.t (.l (xs.map mk)), .fn g caps] (.t (.i .i64 (fidx p xs))) := by
  have hL : ∀ ck, ixQ xs p (evL C (.loop (ixl ag sz)) ⟨[(0, .t (.l (xs.map mk))), (1, .fn g caps), (7, .t (.i .i64 xs.length)), (8, .t (.i .i64 0))], [], ck⟩) := by
    intro ck
    refine loop_q xs.length (ixP g caps mk xs p) ?_ ?_ _ ⟨fun j hj h => absurd h (Nat.not_lt_zero j), ck, rfl⟩
    · rintro i s hi ⟨h1, ck, rfl⟩
      have hm := List.getElem_mem hi
      have hw : IntKind.i64.wrap ((i : Int) + 1) = (i : Int) + 1 := wrap_id (by omega) (by omega)
      obtain ⟨ck', hc⟩ := hp xs[i] hm ⟨[], [], ck + 2⟩ ⟨16, ck + 2, 5⟩ rfl
      have hc2 : ∀ e, callEv C (runL C) g (arg xs[i] :: caps) ⟨e, [], ck + 1 + 1⟩ ⟨16, ck + 1 + 1, 5⟩ = some (.t (.b (p xs[i])), [], ck') := fun e => hc
      by_cases hx : p xs[i] = true
      · have hid := fidx_at p xs i hi (fun j hj => h1 j (by omega) hj) hx
        rw [hx] at hc2
        simp [-loadOf, ixl, ixo2, ixo3, ixo4, ixo5, ixo6, hi, hsz _ hm, hld _ hm, hc2]
        exact .inr ⟨_, by rw [hid]⟩
      · have hx' : p xs[i] = false := by simpa using hx
        rw [hx'] at hc2
        simp [-loadOf, ixl, ixo2, ixo3, ixo4, ixo5, ixo6, hi, hsz _ hm, hld _ hm, hc2, hw]
        refine ⟨fun j hj hji => ?_, _, rfl⟩
        by_cases e : j = i
        · subst e; exact hx'
        · exact h1 j hj (by omega)
    · rintro s ⟨h1, ck, rfl⟩
      simp [ixl, ixo2]
      exact .inl ⟨_, _, rfl, fidx_none p xs fun j hj => h1 j hj hj⟩
  refine RetT.of ?_
  rw [runL_pf hex hpf]
  have h2 := hL 2
  rcases h2 with ⟨e, c, h2, h3⟩ | ⟨c, h2⟩
  · simp [ixfF, ixo0, ixo1, ixo7, h2, h3]
  · simp [ixfF, ixo0, ixo1, ixo7, h2]
end
def cto0 : List (Nat × Pop) := [(0, ⟨some 4, .mv (.c (.t (.b false))), none⟩)]
def cto1 (ix : Nat) : List (Nat × Pop) := [(0, ⟨some 5, .mv (.tmp 0), none⟩), (1, ⟨some 6, .mv (.tmp 1), none⟩), (2, ⟨some 7, .call ix [.tmp 5, .tmp 6], none⟩), (3, ⟨some 8, .bin .geq (.tmp 7) (.c (.t (.i .i64 0))), none⟩), (4, ⟨some 4, .mv (.tmp 8), none⟩)]
def ctfF (ix : Nat) : Pfn := ⟨2, 9, [.tmp 4], .seq (.reg cto0 [0, 1] []) (.seq (.reg (cto1 ix) [4] []) .ret)⟩
section
variable {C : Cfg}
theorem callEv_fn {f g : Nat} {x : T} {caps caps0 : List V} {v : V} (h : RetT C f [.t x, .fn g caps] v) (hv : flatV v = true) (hm : C.hpm f = false) (ho : C.own f = false) (s : St) (k : Key) (hc : capsOf s.hp caps0 = some caps) : callEv C (runL C) f [.t x, .fn g caps0] s k = some (v, s.hp, s.ck) :=
  callEv_t hm ho (by simp [puresOf, pureOf, hc]) h (.inl hv)
theorem ctf_run {α : Type} {f ix g : Nat} {caps : List V} {x : T} {xs : List α} {p : α → Bool} (hpf : C.pf f = some (ctfF ix)) (hex : C.ex f = none) (hm : C.hpm ix = false) (ho : C.own ix = false) (hc : ∀ h, capsOf h caps = some caps) (hr : RetT C ix [.t x, .fn g caps] (.t (.i .i64 (fidx p xs)))) : RetT C f [.t x, .fn g caps] (.t (.b (xs.any p))) := by
  have h1 := fun s k => callEv_fn (C := C) hr rfl hm ho s k (hc s.hp)
  refine RetT.of ?_
  rw [runL_pf hex hpf]
  have h2 : decide (0 ≤ fidx p xs) = xs.any p := by
    have := fidx_neg p xs
    cases ha : xs.any p with
    | false => have := this.2 ha; simp; omega
    | true => have : ¬ fidx p xs < 0 := fun e => by rw [this.1 e] at ha; cases ha
              simp; omega
  simp [ctfF, cto0, cto1, h1, h2]
end
end Go.Proofs.YtccnadleegcobaaGreat.Pv
end

section
/- What port.Again tells. -/
namespace Go.Proofs.YtccnadleegcobaaGreat.Pv
open Go Go.Pev

def slcA (l : List (List UInt8)) : List (List T) := l.map fun s => [.s s]
def slA (l : List (List UInt8)) : T := .l (slcA l)
theorem slcA_len (l : List (List UInt8)) : (slcA l).length = l.length := by simp [slcA]
def agF (q : List Fr) : List (List UInt8) := (q.filter fun f => decide (packOk 68 f.1 f.2)).map fun f => packR 68 f.1 f.2
theorem agF_drop {q : List Fr} {j : Nat} (h : j < q.length) : agF (q.drop j) = (if packOk 68 q[j].1 q[j].2 then [packR 68 q[j].1 q[j].2] else []) ++ agF (q.drop (j + 1)) := by
  rw [List.drop_eq_getElem_cons h]
  unfold agF
  rw [List.filter_cons]
  by_cases c : packOk 68 q[j].1 q[j].2
  · rw [if_pos (by simpa using c), if_pos c]; rfl
  · rw [if_neg (by simpa using c), if_neg c]; rfl
set_option maxHeartbeats 1000000 in
theorem again_loop (q : List Fr) (hl : q.length ≤ 100000) (ht : ∀ f ∈ q, f.2.length ≤ 900000) : ∀ (m j c o ck : Nat) (acc : List (List UInt8)), j + m = q.length → acc.length ≤ j → ∃ c' o' ck' tl, evL cfg (.loop f11l0) ⟨[(3, .ow ⟨3, c, o⟩ 1 0 acc.length), (10, .t (fl q)), (11, iv q.length), (12, iv j)], [(⟨3, c, o⟩, .row 9 1 (slcA acc) false)], ck⟩ =
    some (.exit 0, ⟨[(3, .ow ⟨3, c', o'⟩ 1 0 (acc ++ agF (q.drop j)).length), (10, .t (fl q)), (11, iv q.length), (12, iv q.length)] ++ tl, [(⟨3, c', o'⟩, .row 9 1 (slcA (acc ++ agF (q.drop j))) false)], ck'⟩) := by
  intro m
  induction m with
  | zero =>
    intro j c o ck acc h ha
    obtain rfl : j = q.length := by omega
    refine ⟨c, o, ck + 1, [(13, bv false)], ?_⟩
    rw [evL_loop]
    have hd : q.drop q.length = [] := List.drop_eq_nil_of_le (Nat.le_refl _)
    rw [hd]
    simp [f11l0e, agF]
  | succ m ih =>
    intro j c o ck acc h ha
    have hlt : j < q.length := by omega
    have hw : IntKind.i64.wrap ((j : Int) + 1) = (j : Int) + 1 := wrap_id (by omega) (by omega)
    have hx : (q.map fun f => ([T.i .i64 f.1, .s f.2] : List T))[j]? = some [.i .i64 q[j].1, .s q[j].2] := by simp [hlt]
    have hp := fun s k => callEv_tr (C := cfg) (pack_ret 68 q[j].1 q[j].2 (ht _ (List.getElem_mem hlt))) rfl rfl rfl s k
    have h68 : ((68 : UInt8).toNat : Int) = 68 := rfl
    simp only [iv, h68] at hp
    rw [agF_drop hlt]
    by_cases e : packOk 68 q[j].1 q[j].2
    · rw [if_pos e] at hp ⊢
      obtain ⟨c', o', ck', tl, hc⟩ := ih (j + 1) (ck + 4) 3 (ck + 6) (acc ++ [packR 68 q[j].1 q[j].2]) (by omega) (by simp; omega)
      rw [List.append_assoc] at hc
      refine ⟨c', o', ck', tl, ?_⟩
      have hb : (acc.length + 1) * 16 ≤ 140737488355328 := by omega
      rw [evL_loop_n (s1 := ⟨[(3, .ow ⟨3, ck + 4, 3⟩ 1 0 (acc ++ [packR 68 q[j].1 q[j].2]).length), (10, .t (fl q)), (11, iv q.length), (12, iv ((j + 1 : Nat) : Int))], [(⟨3, ck + 4, 3⟩, .row 9 1 (slcA (acc ++ [packR 68 q[j].1 q[j].2])) false)], ck + 6⟩), hc]
      have e3 : slcA (acc ++ [packR 68 q[j].1 q[j].2]) = slcA acc ++ [[.s (packR 68 q[j].1 q[j].2)]] := by simp [slcA]
      generalize packR 68 q[j].1 q[j].2 = P at hp e3 ⊢
      simp [f11l0e, fl, hlt, hw, hx, hp, over, slcA_len, rowsOf, treesC, treesOf, treeOf, keysOfs, freezeAll, app, elsOf, hb, e3]
    · rw [if_neg e] at hp ⊢
      obtain ⟨c', o', ck', tl, hc⟩ := ih (j + 1) c o (ck + 5) acc (by omega) (by omega)
      refine ⟨c', o', ck', tl, ?_⟩
      rw [List.nil_append]
      rw [evL_loop_n (s1 := ⟨[(3, .ow ⟨3, c, o⟩ 1 0 acc.length), (10, .t (fl q)), (11, iv q.length), (12, iv ((j + 1 : Nat) : Int))], [(⟨3, c, o⟩, .row 9 1 (slcA acc) false)], ck + 5⟩), hc]
      generalize packR 68 q[j].1 q[j].2 = P at hp ⊢
      simp [f11l0e, fl, hlt, hw, hx, hp, over]
theorem again_ret (p : Prt) (hl : p.q.length ≤ 100000) (ht : ∀ f ∈ p.q, f.2.length ≤ 900000) : RetT cfg 11 [prV p] (.t (slA (agF p.q))) := by
  obtain ⟨next, q, low, seen⟩ := p
  simp only at hl ht ⊢
  rw [retT_r, runL_pf (fn := f11) rfl rfl]
  obtain ⟨c', o', ck', tl, hc⟩ := again_loop q hl ht q.length 0 1 0 3 [] (by omega) (by simp)
  rw [List.drop_zero, List.nil_append] at hc
  simp only [iv, Int.natCast_zero] at hc
  have htk : (slcA (agF q)).take (agF q).length = slcA (agF q) := List.take_of_length_le (by rw [slcA_len]; omega)
  simp [slcA, fl] at hc
  simp [prV, hc, slcA, slA, fl, resOf, resOf1, treeOf]
  exact htk
end Go.Proofs.YtccnadleegcobaaGreat.Pv
end

section
/- An expert's pieces by a port: plain laws. -/
namespace Go.Proofs.YtccnadleegcobaaGreat.Pv
open Go Go.Pev

theorem sorted_lenT : ∀ (l : List Int) (a b : Int), l.Pairwise (· < ·) → (∀ x ∈ l, a < x ∧ x < b) → a < b → (l.length : Int) ≤ b - a - 1
  | [], a, b, _, _, h => by simp; omega
  | x :: r, a, b, hp, hm, h => by
    have hp' := List.pairwise_cons.1 hp
    have hx := hm x List.mem_cons_self
    have := sorted_lenT r x b hp'.2 (fun y hy => ⟨hp'.1 y hy, (hm y (List.mem_cons_of_mem _ hy)).2⟩) (by omega)
    simp only [List.length_cons]; omega
/-- The receiver: which came. -/
structure RI (D : Nat → Bool) (b : Prt) : Prop where
  next : b.next = 0
  q : b.q = []
  win : WIs 16 b.low b.seen
  above : ∀ x ∈ b.seen, b.low < x
  came : ∀ j : Nat, ((j : Int) < b.low ∨ (j : Int) ∈ b.seen) ↔ D j = true
theorem RI.short {D : Nat → Bool} {b : Prt} (h : RI D b) : b.seen.length < 32 := by
  obtain ⟨w1, w2, w3, w4, w5⟩ := h.win
  by_cases c : b.low < 17
  · have := sorted_lenT b.seen b.low 17 w3 (fun x hx => ⟨h.above x hx, by have := w4 x hx; omega⟩) c
    omega
  · cases hs : b.seen with
    | nil => simp
    | cons x r => have := w4 x (by rw [hs]; exact List.mem_cons_self); omega
theorem ri_0 : RI (fun _ => false) ⟨0, [], 0, []⟩ := ⟨rfl, rfl, ⟨by simp, by simp, by simp, by simp, by simp⟩, by simp, fun j => by simp⟩
def addD (D : Nat → Bool) (n : Nat) : Nat → Bool := fun j => D j || decide (j = n)
theorem ri_recv {D : Nat → Bool} {b : Prt} (h : RI D b) {n : Nat} (hn : n ≤ 16) (hD : D n = false) (t : List UInt8) : recvP b (packR 68 n t) = ((recvP b (packR 68 n t)).1, t, true, packR 65 n [], 0) ∧ RI (addD D n) (recvP b (packR 68 n t)).1 := by
  obtain ⟨a1, a2, a3, a4, a5, a6⟩ := acc_is (n := (n : Int)) h.win (by omega) (by omega) (by omega)
  have hnc : ¬ ((n : Int) < b.low ∨ (n : Int) ∈ b.seen) := fun hh => by rw [(h.came n).1 hh] at hD; cases hD
  have hok : (acc b.low b.seen (n : Int)).2.2 = true := by rw [a1]; exact decide_eq_true hnc
  rw [recv_data ⟨by omega, by omega⟩, if_pos hok]
  refine ⟨rfl, ⟨h.next, h.q, a2, a5 h.above, fun j => ?_⟩⟩
  simp only [addD, Bool.or_eq_true, decide_eq_true_eq, ← h.came j]
  constructor
  · intro hx
    rcases a6 h.short j hx with q | q | q
    · exact .inl (.inl q)
    · exact .inl (.inr q)
    · exact .inr (by omega)
  · rintro (hx | rfl)
    · exact a3 j hx
    · exact a4
/-- The sender: what nobody told of. -/
structure SI (i : Nat) (a : Prt) : Prop where
  next : a.next = i
  low : a.low = 0
  seen : a.seen = []
  up : upF (-1) i a.q = true
  len : a.q.length ≤ i
theorem upF_snoc : ∀ (q : List Fr) (last n : Int) (t : List UInt8), last < n → upF last n q = true → upF last (n + 1) (q ++ [(n, t)]) = true
  | [], last, n, t, h, _ => by simp [upF]; omega
  | f :: r, last, n, t, h, hu => by
    simp only [upF, Bool.and_eq_true, decide_eq_true_eq, List.cons_append] at hu ⊢
    exact ⟨⟨hu.1.1, by omega⟩, upF_snoc r f.1 n t hu.1.2 hu.2⟩
theorem upF_filter (p : Fr → Bool) : ∀ (q : List Fr) (last n : Int), upF last n q = true → upF last n (q.filter p) = true
  | [], _, _, _ => rfl
  | f :: r, last, n, hu => by
    simp only [upF, Bool.and_eq_true, decide_eq_true_eq] at hu
    rw [List.filter_cons]
    have key : ∀ (r : List Fr) (x y n : Int), x ≤ y → upF y n r = true → upF x n r = true := by
      intro r x y n h hr
      cases r with
      | nil => rfl
      | cons g s =>
        simp only [upF, Bool.and_eq_true, decide_eq_true_eq] at hr ⊢
        exact ⟨⟨by omega, hr.1.2⟩, hr.2⟩
    split
    · simp only [upF, Bool.and_eq_true, decide_eq_true_eq]
      exact ⟨hu.1, upF_filter p r f.1 n hu.2⟩
    · exact key _ _ _ _ (by omega) (upF_filter p r f.1 n hu.2)
theorem si_0 : SI 0 ⟨0, [], 0, []⟩ := ⟨rfl, rfl, rfl, rfl, by simp⟩
theorem si_send {i : Nat} {a : Prt} (h : SI i a) (hi : i ≤ 16) (t : List UInt8) : sendP a t = ({ a with next := a.next + 1, q := a.q ++ [((i : Int), t)] }, packR 68 i t, 0) ∧ SI (i + 1) { a with next := a.next + 1, q := a.q ++ [((i : Int), t)] } := by
  have hn := h.next
  have hl := h.len
  have hr : lright a.next a.q = true := by
    unfold lright
    rw [hn, h.up, decide_eq_true (by omega)]; rfl
  have hp : pushP a.next a.q t = (a.next + 1, a.q ++ [(a.next, t)], a.next, 0) := by
    unfold pushP
    rw [if_neg (by rw [hr, hn]; simp; omega), if_neg (by omega)]
  have hb : ¬ busyP a.next a.q := by
    rintro ⟨f, r, e, hf⟩
    have := h.up
    rw [e] at this
    have := upF_fst this
    omega
  refine ⟨?_, by simp only [hn]; omega, h.low, h.seen, upF_snoc _ _ _ _ (by omega) h.up, by simp; omega⟩
  unfold sendP
  rw [hp, if_neg (by simp), if_neg hb, if_neg (by simp)]
  simp only [hn]
theorem si_told {i : Nat} {a : Prt} (h : SI i a) {n : Nat} (hn : n ≤ 16) : recvP a (packR 65 n []) = ({ a with q := a.q.filter (keepF n) }, [], false, [], 0) ∧ SI i { a with q := a.q.filter (keepF n) } :=
  ⟨recv_told ⟨by omega, by omega⟩, h.next, h.low, h.seen, upF_filter _ _ _ _ h.up, Nat.le_trans (List.length_filter_le _ _) h.len⟩

/-! ### all of it, piece by piece -/
section
variable (l : List (List UInt8)) (L : Nat → Bool)
def tP (j : Nat) : List UInt8 := UInt8.ofNat j :: l.getD j []
def lostQ (i : Nat) : List Fr := ((List.range i).filter L).map fun (j : Nat) => (((j : Nat) : Int), tP l j)
def hereD (i : Nat) : Nat → Bool := fun j => decide (j < i) && !L j
def gotL (D : Nat → Bool) : List (List UInt8) := (List.range l.length).map fun j => if D j then l.getD j [] else []
def cntL (D : Nat → Bool) : List Int := (List.range l.length).map fun j => if D j then 1 else 0
structure TI (i : Nat) (a b : Prt) : Prop where
  sa : SI i a
  sq : a.q = lostQ l L i
  sb : RI (hereD L i) b
theorem lostQ_lost {i : Nat} (h : L i = true) : lostQ l L (i + 1) = lostQ l L i ++ [((i : Int), tP l i)] := by
  unfold lostQ; rw [List.range_succ, List.filter_append, List.map_append]; simp [h]
theorem lostQ_here {i : Nat} (h : L i = false) : lostQ l L (i + 1) = lostQ l L i := by
  unfold lostQ; rw [List.range_succ, List.filter_append, List.map_append]; simp [h]
theorem lostQ_keep (i : Nat) (t : List UInt8) : (lostQ l L i ++ [((i : Int), t)]).filter (keepF i) = lostQ l L i := by
  rw [List.filter_append]
  have h1 : (lostQ l L i).filter (keepF i) = lostQ l L i := by
    refine List.filter_eq_self.2 fun f hf => ?_
    unfold lostQ at hf
    obtain ⟨j, hj, rfl⟩ := List.mem_map.1 hf
    have := List.mem_range.1 (List.mem_filter.1 hj).1
    simp [keepF]; omega
  rw [h1]; simp [keepF]
theorem hereD_lost {i : Nat} (h : L i = true) : hereD L (i + 1) = hereD L i := by
  funext j
  unfold hereD
  by_cases e : j = i
  · subst e; simp [h]
  · have : decide (j < i + 1) = decide (j < i) := by rw [decide_eq_decide]; omega
    rw [this]
theorem hereD_here {i : Nat} (h : L i = false) : hereD L (i + 1) = addD (hereD L i) i := by
  funext j
  unfold hereD addD
  by_cases e : j = i
  · subst e; simp [h]
  · have : decide (j < i + 1) = decide (j < i) := by rw [decide_eq_decide]; omega
    rw [this]; simp [e]
theorem hereD_self (i : Nat) : hereD L i i = false := by simp [hereD]
theorem gotL_add {D : Nat → Bool} {n : Nat} (hn : n < l.length) : gotL l (addD D n) = (gotL l D).set n (l.getD n []) := by
  unfold gotL
  apply List.ext_getElem
  · simp
  · intro j h1 h2
    rw [List.getElem_set]
    simp only [List.getElem_map, List.getElem_range, addD]
    by_cases e : n = j
    · subst e; simp
    · have : ¬ j = n := fun h => e h.symm
      simp [e, this]
theorem cntL_add {D : Nat → Bool} {n : Nat} (hn : n < l.length) : cntL l (addD D n) = (cntL l D).set n 1 := by
  unfold cntL
  apply List.ext_getElem
  · simp
  · intro j h1 h2
    rw [List.getElem_set]
    simp only [List.getElem_map, List.getElem_range, addD]
    by_cases e : n = j
    · subst e; simp
    · have : ¬ j = n := fun h => e h.symm
      simp [e, this]
theorem cntL_at {D : Nat → Bool} {n : Nat} (hn : n < l.length) (hD : D n = false) : (cntL l D)[n]? = some 0 := by
  unfold cntL; simp [hn, hD]
theorem gotL_len (D : Nat → Bool) : (gotL l D).length = l.length := by simp [gotL]
theorem cntL_len (D : Nat → Bool) : (cntL l D).length = l.length := by simp [cntL]
theorem ti_0 : TI l L 0 ⟨0, [], 0, []⟩ ⟨0, [], 0, []⟩ := ⟨si_0, rfl, by
  have : hereD L 0 = fun _ => false := by funext j; simp [hereD]
  rw [this]; exact ri_0⟩
theorem ti_lost {i : Nat} {a b : Prt} (h : TI l L i a b) (hi : i ≤ 16) (hL : L i = true) : TI l L (i + 1) { a with next := a.next + 1, q := a.q ++ [((i : Int), tP l i)] } b :=
  ⟨(si_send h.sa hi (tP l i)).2, by simp only; rw [h.sq, lostQ_lost l L hL], by rw [hereD_lost L hL]; exact h.sb⟩
theorem ti_here {i : Nat} {a b : Prt} (h : TI l L i a b) (hi : i ≤ 16) (hL : L i = false) : TI l L (i + 1) { a with next := a.next + 1, q := (a.q ++ [((i : Int), tP l i)]).filter (keepF i) } (recvP b (packR 68 i (tP l i))).1 :=
  ⟨(si_told (si_send h.sa hi (tP l i)).2 hi).2, by simp only; rw [h.sq, lostQ_keep, lostQ_here l L hL], by rw [hereD_here L hL]; exact (ri_recv h.sb hi (hereD_self L i) _).2⟩
/-- What is sent again. -/
theorem again_lost (i : Nat) (hi : i ≤ 17) : agF (lostQ l L i) = ((List.range i).filter L).map fun (j : Nat) => packR 68 ((j : Nat) : Int) (tP l j) := by
  unfold agF lostQ
  have hall : ∀ f ∈ ((List.range i).filter L).map (fun (j : Nat) => (((j : Nat) : Int), tP l j)), decide (packOk 68 f.1 f.2) = true := fun f hf => by
    obtain ⟨j, hj, rfl⟩ := List.mem_map.1 hf
    have := List.mem_range.1 (List.mem_filter.1 hj).1
    exact decide_eq_true ⟨.inl rfl, by simp only; omega, by simp only; omega⟩
  rw [List.filter_eq_self.2 hall, List.map_map]; rfl
/-- Which came, when some of the lost ones came, too. -/
def moreD (N k : Nat) : Nat → Bool := fun j => hereD L N j || (((List.range N).filter L).take k).contains j
theorem moreD_0 (N : Nat) : moreD L N 0 = hereD L N := by funext j; simp [moreD]
theorem lost_get {N k : Nat} (hk : k < ((List.range N).filter L).length) : ((List.range N).filter L)[k] < N ∧ L ((List.range N).filter L)[k] = true := by
  have := List.mem_filter.1 (List.getElem_mem hk)
  exact ⟨List.mem_range.1 this.1, this.2⟩
theorem moreD_succ {N k : Nat} (hk : k < ((List.range N).filter L).length) : moreD L N (k + 1) = addD (moreD L N k) ((List.range N).filter L)[k] := by
  funext j
  unfold moreD addD
  rw [List.take_add_one, List.getElem?_eq_getElem hk, List.contains_append]
  simp only [Option.toList, List.contains_cons, List.contains_nil, Bool.or_false, Bool.or_assoc]
  congr 2
theorem moreD_not {N k : Nat} (hk : k < ((List.range N).filter L).length) : moreD L N k ((List.range N).filter L)[k] = false := by
  obtain ⟨h1, h2⟩ := lost_get L hk
  unfold moreD hereD
  rw [h2]
  simp only [Bool.not_true, Bool.and_false, Bool.false_or]
  have nd : ((List.range N).filter L).Nodup := List.nodup_range.filter _
  rw [Bool.eq_false_iff]
  intro hc
  rw [List.contains_iff_mem] at hc
  obtain ⟨q, hq, he⟩ := List.getElem_of_mem hc
  rw [List.getElem_take] at he
  have hq' : q < k := by rw [List.length_take] at hq; omega
  exact (List.pairwise_iff_getElem.1 nd) q k (by omega) hk hq' he
theorem moreD_all (N : Nat) : ∀ j, j < N → moreD L N ((List.range N).filter L).length j = true := by
  intro j hj
  unfold moreD hereD
  rw [List.take_length]
  cases hL : L j with
  | false => simp [hj]
  | true =>
    have : j ∈ (List.range N).filter L := List.mem_filter.2 ⟨List.mem_range.2 hj, hL⟩
    simp [this, List.contains_iff_mem]
theorem gotL_all {D : Nat → Bool} (h : ∀ j, j < l.length → D j = true) : gotL l D = l := by
  unfold gotL
  apply List.ext_getElem
  · simp
  · intro j h1 h2
    simp [h j h2, List.getD_eq_getElem?_getD, h2]
theorem cntL_all {D : Nat → Bool} (h : ∀ j, j < l.length → D j = true) (j : Nat) (hj : j < l.length) : (cntL l D)[j]? = some 1 := by
  unfold cntL; simp [hj, h j hj]
end
end Go.Proofs.YtccnadleegcobaaGreat.Pv
end

section
/- What chunk.four and number tell. -/
namespace Go.Proofs.YtccnadleegcobaaGreat.Pv
open Go Go.Pev

def four32 (n : Int) : Nat := (n % 4294967296).toNat
theorem four32_eq (n : Int) : (four32 n : Int) = n % 4294967296 := by unfold four32; omega
theorem four32_lt (n : Int) : four32 n < 4294967296 := by unfold four32; omega
def fourZ (n : Int) : List UInt8 := fourN (four32 n)
theorem fourZ_len (n : Int) : (fourZ n).length = 4 := rfl
theorem shr_atI (n : Int) (i : Nat) (hi : i ≤ 64) : bin .shr (.t (.i .i64 n)) (.t (.i .u64 (i : Int))) = some (.t (.i .i64 (n / 2 ^ i))) := by
  rw [bin_shr]
  show (if (i : Int) < 0 then none else some (V.t (.i .i64 (Int.fdiv n (2 ^ (min (i : Int).toNat 64)))))) = _
  rw [if_neg (by omega), Int.toNat_natCast, Nat.min_eq_left hi, Int.fdiv_eq_ediv_of_nonneg _ (Int.pow_nonneg (by decide))]
theorem cfour_ret (n : Int) : RetT cfg 19 [iv n] (.t (.s (fourZ n))) := by
  refine RetT.of ?_
  rw [runL_pf (fn := f19) rfl rfl]
  have s1 := shr_atI n 8 (by omega)
  have s2 := shr_atI n 16 (by omega)
  have s3 := shr_atI n 24 (by omega)
  have hN := four32_eq n
  have w0 : IntKind.u8.wrap n = ((four32 n % 256 : Nat) : Int) := by rw [IntKind.wrap_u8]; omega
  have w1 : IntKind.u8.wrap (n / 2 ^ 8) = ((four32 n / 256 % 256 : Nat) : Int) := by rw [IntKind.wrap_u8]; omega
  have w2 : IntKind.u8.wrap (n / 2 ^ 16) = ((four32 n / 65536 % 256 : Nat) : Int) := by rw [IntKind.wrap_u8]; omega
  have w3 : IntKind.u8.wrap (n / 2 ^ 24) = ((four32 n / 16777216 % 256 : Nat) : Int) := by rw [IntKind.wrap_u8]; omega
  unfold fourZ fourN
  generalize n / 2 ^ 8 = a1 at *
  generalize n / 2 ^ 16 = a2 at *
  generalize n / 2 ^ 24 = a3 at *
  generalize four32 n / 256 % 256 = b1 at *
  generalize four32 n / 65536 % 256 = b2 at *
  generalize four32 n / 16777216 % 256 = b3 at *
  generalize four32 n % 256 = b0 at *
  have e8 : ((8 : Nat) : Int) = 8 := rfl
  have e16 : ((16 : Nat) : Int) = 16 := rfl
  have e24 : ((24 : Nat) : Int) = 24 := rfl
  rw [e8] at s1
  rw [e16] at s2
  rw [e24] at s3
  simp [s1, s2, s3, w0, w1, w2, w3, -bin_shr, rowsOf, keysOfs, treesC, treesOf, treeOf, freezeAll, elsOf, u8s]

theorem shl32 {n i m : Nat} (hm : m = n * 2 ^ i) (hi : i ≤ 32) (h : m < 4294967296) : bin .shl (.t (.i .u32 (n : Int))) (.t (.i .u64 (i : Int))) = some (.t (.i .u32 (m : Int))) := by
  subst hm
  rw [bin_shl]
  show (if (i : Int) < 0 then none else some (V.t (.i .u32 (IntKind.u32.wrap ((n : Int) * 2 ^ (min (i : Int).toNat 32)))))) = _
  rw [if_neg (by omega), Int.toNat_natCast, Nat.min_eq_left hi]
  have e : (n : Int) * 2 ^ i = ((n * 2 ^ i : Nat) : Int) := by rw [Int.natCast_mul, Int.natCast_pow]; rfl
  rw [e, wrapN h]
theorem or32 {a b i m n : Nat} (hm : m = b * 2 ^ i) (hn : n = a + m) (ha : a < 2 ^ i) (h : n < 4294967296) : bin .or (.t (.i .u32 (a : Int))) (.t (.i .u32 (m : Int))) = some (.t (.i .u32 (n : Int))) := by
  subst hm; subst hn
  rw [bin_or]
  show some (V.t (.i .u32 (IntKind.u32.wrap ((BitVec.ofInt 32 (a : Int) ||| BitVec.ofInt 32 ((b * 2 ^ i : Nat) : Int)).toNat : Int)))) = _
  have e : (BitVec.ofInt 32 (a : Int) ||| BitVec.ofInt 32 ((b * 2 ^ i : Nat) : Int)).toNat = a + b * 2 ^ i := by
    rw [show BitVec.ofInt 32 (a : Int) = BitVec.ofNat 32 a from BitVec.ofInt_natCast 32 a, show BitVec.ofInt 32 ((b * 2 ^ i : Nat) : Int) = BitVec.ofNat 32 (b * 2 ^ i) from BitVec.ofInt_natCast 32 _, BitVec.toNat_or, BitVec.toNat_ofNat, BitVec.toNat_ofNat, Nat.mod_eq_of_lt (by omega), Nat.mod_eq_of_lt (by omega)]
    have := Nat.shiftLeft_add_eq_or_of_lt ha b
    rw [Nat.shiftLeft_eq] at this
    rw [Nat.or_comm, ← this, Nat.add_comm]
  rw [e, wrapN h]
def numZ (a b c d : UInt8) : Int := if fourD a b c d < 2147483648 then (fourD a b c d : Int) else (fourD a b c d : Int) - 4294967296
def numAt (s : List UInt8) (i : Nat) : Int := numZ (s.getD (4 * i) 0) (s.getD (4 * i + 1) 0) (s.getD (4 * i + 2) 0) (s.getD (4 * i + 3) 0)
theorem cnum_ret (s : List UInt8) (i : Nat) (hl : s.length ≤ 100000) (hi : 4 * i + 4 ≤ s.length) : RetT cfg 27 [.t (.s s), iv i] (iv (numAt s i)) := by
  refine RetT.of ?_
  rw [runL_pf (fn := f27) rfl rfl]
  obtain ⟨x1, hx1⟩ : ∃ x, s[4 * i]? = some x := ⟨_, List.getElem?_eq_getElem (by omega)⟩
  obtain ⟨x2, hx2⟩ : ∃ x, s[4 * i + 1]? = some x := ⟨_, List.getElem?_eq_getElem (by omega)⟩
  obtain ⟨x3, hx3⟩ : ∃ x, s[4 * i + 2]? = some x := ⟨_, List.getElem?_eq_getElem (by omega)⟩
  obtain ⟨x4, hx4⟩ : ∃ x, s[4 * i + 3]? = some x := ⟨_, List.getElem?_eq_getElem (by omega)⟩
  have gd1 : s.getD (4 * i) 0 = x1 := by rw [List.getD_eq_getElem?_getD, hx1]; rfl
  have gd2 : s.getD (4 * i + 1) 0 = x2 := by rw [List.getD_eq_getElem?_getD, hx2]; rfl
  have gd3 : s.getD (4 * i + 2) 0 = x3 := by rw [List.getD_eq_getElem?_getD, hx3]; rfl
  have gd4 : s.getD (4 * i + 3) 0 = x4 := by rw [List.getD_eq_getElem?_getD, hx4]; rfl
  unfold numAt
  rw [gd1, gd2, gd3, gd4]
  have q1 := x1.toNat_lt
  have q2 := x2.toNat_lt
  have q3 := x3.toNat_lt
  have q4 := x4.toNat_lt
  obtain ⟨j, hj⟩ : ∃ j : Nat, j = 4 * i := ⟨_, rfl⟩
  rw [← hj] at hx1 hx2 hx3 hx4
  have j0 : IntKind.i64.wrap (4 * (i : Int)) = (j : Int) := by rw [wrap_id (by omega) (by omega)]; omega
  have j1 : IntKind.i64.wrap ((j : Int) + 1) = ((j + 1 : Nat) : Int) := by rw [wrap_id (by omega) (by omega)]; omega
  have j2 : IntKind.i64.wrap ((j : Int) + 2) = ((j + 2 : Nat) : Int) := by rw [wrap_id (by omega) (by omega)]; omega
  have j3 : IntKind.i64.wrap ((j : Int) + 3) = ((j + 3 : Nat) : Int) := by rw [wrap_id (by omega) (by omega)]; omega
  have p0 : 0 ≤ (j : Int) := by omega
  generalize hk1 : j + 1 = k1 at *
  generalize hk2 : j + 2 = k2 at *
  generalize hk3 : j + 3 = k3 at *
  obtain ⟨m2, hm2⟩ : ∃ m : Nat, m = 256 * x2.toNat := ⟨_, rfl⟩
  obtain ⟨m3, hm3⟩ : ∃ m : Nat, m = 65536 * x3.toNat := ⟨_, rfl⟩
  obtain ⟨m4, hm4⟩ : ∃ m : Nat, m = 16777216 * x4.toNat := ⟨_, rfl⟩
  obtain ⟨n2, hn2⟩ : ∃ m : Nat, m = x1.toNat + m2 := ⟨_, rfl⟩
  obtain ⟨n3, hn3⟩ : ∃ m : Nat, m = n2 + m3 := ⟨_, rfl⟩
  have hD : fourD x1 x2 x3 x4 = n3 + m4 := by unfold fourD; omega
  have f2 := shl32 (n := x2.toNat) (i := 8) (m := m2) (by omega) (by omega) (by omega)
  have f3 := shl32 (n := x3.toNat) (i := 16) (m := m3) (by omega) (by omega) (by omega)
  have f4 := shl32 (n := x4.toNat) (i := 24) (m := m4) (by omega) (by omega) (by omega)
  have g2 := or32 (a := x1.toNat) (b := x2.toNat) (i := 8) (m := m2) (n := n2) (by omega) (by omega) (by omega) (by omega)
  have g3 := or32 (a := n2) (b := x3.toNat) (i := 16) (m := m3) (n := n3) (by omega) (by omega) (by omega) (by omega)
  have g4 := or32 (a := n3) (b := x4.toNat) (i := 24) (m := m4) (n := fourD x1 x2 x3 x4) (by omega) (by omega) (by omega) (by omega)
  have v1 : IntKind.u32.wrap (x1.toNat : Int) = (x1.toNat : Int) := wrapN (by omega)
  have v2 : IntKind.u32.wrap (x2.toNat : Int) = (x2.toNat : Int) := wrapN (by omega)
  have v3 : IntKind.u32.wrap (x3.toNat : Int) = (x3.toNat : Int) := wrapN (by omega)
  have v4 : IntKind.u32.wrap (x4.toNat : Int) = (x4.toNat : Int) := wrapN (by omega)
  have hDl : fourD x1 x2 x3 x4 < 4294967296 := by omega
  have hz : IntKind.i32.wrap (fourD x1 x2 x3 x4 : Int) = numZ x1 x2 x3 x4 := by
    unfold numZ
    rw [IntKind.wrap_i32]
    split <;> omega
  have hzb : -2147483648 ≤ numZ x1 x2 x3 x4 ∧ numZ x1 x2 x3 x4 ≤ 2147483647 := by unfold numZ; split <;> omega
  have hz2 : IntKind.i64.wrap (numZ x1 x2 x3 x4) = numZ x1 x2 x3 x4 := wrap_id (by omega) (by omega)
  generalize numZ x1 x2 x3 x4 = Z at *
  generalize fourD x1 x2 x3 x4 = D at *
  have e8 : ((8 : Nat) : Int) = 8 := rfl
  have e16 : ((16 : Nat) : Int) = 16 := rfl
  have e24 : ((24 : Nat) : Int) = 24 := rfl
  rw [e8] at f2
  rw [e16] at f3
  rw [e24] at f4
  simp [j0, j1, j2, j3, hx1, hx2, hx3, hx4, v1, v2, v3, v4, f2, f3, f4, g2, g3, g4, hz, hz2, -bin_shl, -bin_or]
end Go.Proofs.YtccnadleegcobaaGreat.Pv
end

section
/- What chunk.rows tells. -/
namespace Go.Proofs.YtccnadleegcobaaGreat.Pv
open Go Go.Pev

def rowZ (s : List UInt8) (a w : Nat) : List Int := (List.range w).map fun c => numAt s (a + c)
def rowsZ (s : List UInt8) (a m w : Nat) : List (List Int) := (List.range m).map fun r => rowZ s (a + r * w) w
theorem rowZ_len (s : List UInt8) (a w : Nat) : (rowZ s a w).length = w := by simp [rowZ]
theorem rowsZ_len (s : List UInt8) (a m w : Nat) : (rowsZ s a m w).length = m := by simp [rowsZ]
theorem range_take_succ {α : Type} (f : Nat → α) (j : Nat) : (List.range (j + 1)).map f = (List.range j).map f ++ [f j] := by
  rw [List.range_succ, List.map_append]; rfl
abbrev rwE (s : List UInt8) (a w c9 o9 n9 r c11 o11 n11 m j : Nat) : Env := [(0, .t (.s s)), (1, iv a), (3, iv w), (9, .ow ⟨9, c9, o9⟩ 1 0 n9), (10, iv r), (11, .ow ⟨11, c11, o11⟩ 1 0 n11), (13, iv m), (14, iv r), (17, iv w), (18, iv j)]
theorem rw_l0 (s : List UInt8) (a w m r c9 o9 n9 : Nat) (els9 : List (List T)) (hl : s.length ≤ 100000) (hw : w ≤ 1000) (hr : r ≤ 1000) (ha : a ≤ 100000) (hb : ∀ c, c < w → 4 * (a + r * w + c) + 4 ≤ s.length) (hrw : r * w ≤ 1000000) : ∀ (k j c11 o11 ck : Nat), j + k = w → ∃ c' o' ck' tl, evL cfg (.loop f28l0) ⟨rwE s a w c9 o9 n9 r c11 o11 j m j, [(⟨11, c11, o11⟩, .row 3 1 (cl ((List.range j).map fun c => numAt s (a + r * w + c))) false), (⟨9, c9, o9⟩, .row 38 1 els9 false)], ck⟩ =
    some (.exit 2, ⟨rwE s a w c9 o9 n9 r c' o' w m w ++ tl, [(⟨11, c', o'⟩, .row 3 1 (cl (rowZ s (a + r * w) w)) false), (⟨9, c9, o9⟩, .row 38 1 els9 false)], ck'⟩) := by
  intro k
  induction k with
  | zero =>
    intro j c11 o11 ck h
    obtain rfl : j = w := by omega
    refine ⟨c11, o11, ck + 1, [(19, bv false)], ?_⟩
    rw [evL_loop]
    simp [f28l0e, rowZ]
  | succ k ih =>
    intro j c11 o11 ck h
    have hlt : j < w := by omega
    have hltI : (j : Int) < w := by omega
    have e1 : IntKind.i64.wrap ((r : Int) * (w : Int)) = ((r * w : Nat) : Int) := by
      have : (r : Int) * (w : Int) = ((r * w : Nat) : Int) := by rw [Int.natCast_mul]
      rw [this, wrap_id (by omega) (by omega)]
    obtain ⟨q, hq⟩ : ∃ q, q = r * w := ⟨_, rfl⟩
    rw [← hq] at e1 ih hb hrw ⊢
    have e2 : IntKind.i64.wrap ((a : Int) + (q : Int)) = ((a + q : Nat) : Int) := by rw [wrap_id (by omega) (by omega)]; omega
    have e3 : IntKind.i64.wrap (((a + q : Nat) : Int) + (j : Int)) = ((a + q + j : Nat) : Int) := by rw [wrap_id (by omega) (by omega)]; omega
    have e4 : IntKind.i64.wrap ((j : Int) + 1) = (j : Int) + 1 := wrap_id (by omega) (by omega)
    have hn := fun st k => callEv_tr (C := cfg) (cnum_ret s (a + q + j) hl (hb j hlt)) rfl rfl rfl st k
    obtain ⟨c', o', ck', tl, hc⟩ := ih (j + 1) (ck + 2) 11 (ck + 4) (by omega)
    refine ⟨c', o', ck', tl, ?_⟩
    rw [range_take_succ] at hc
    have hlen : ((List.range j).map fun c => numAt s (a + q + c)).length = j := by simp
    generalize ((List.range j).map fun c => numAt s (a + q + c)) = acc at hlen hc ⊢
    have hcl : cl (acc ++ [numAt s (a + q + j)]) = cl acc ++ [[.i .i64 (numAt s (a + q + j))]] := by simp [cl]
    have hcll : (cl acc).length = j := by simp [cl, hlen]
    rw [hcl] at hc
    generalize hX : a + q + j = X at *
    have hb1 : (j + 1) * 8 ≤ 140737488355328 := by omega
    rw [evL_loop_n (s1 := ⟨rwE s a w c9 o9 n9 r (ck + 2) 11 (j + 1) m (j + 1), [(⟨11, ck + 2, 11⟩, .row 3 1 (cl acc ++ [[.i .i64 (numAt s X)]]) false), (⟨9, c9, o9⟩, .row 38 1 els9 false)], ck + 4⟩), hc]
    simp only [iv] at hn
    generalize hA : a + q = A at *
    generalize numAt s X = Z at *
    simp [f28l0e, hltI, hlt, e1, e2, e3, e4, hn, rowsOf, treesC, treesOf, treeOf, keysOfs, freezeAll, app, elsOf, hcll, hb1]

def rr (l : List (List Int)) : List (List T) := l.map fun r => [.l (cl r)]
theorem rr_len (l : List (List Int)) : (rr l).length = l.length := by simp [rr]
set_option maxHeartbeats 1000000 in
theorem rw_l1 (s : List UInt8) (a w m : Nat) (hl : s.length ≤ 100000) (hw : w ≤ 1000) (hm : m ≤ 1000) (ha : a ≤ 100000) (hb : ∀ r c, r < m → c < w → 4 * (a + r * w + c) + 4 ≤ s.length) (hmw : m * w ≤ 1000000) : ∀ (k r c9 o9 ck : Nat), r + k = m → ∃ c' o' ck' tl, evL cfg (.loop f28l1) ⟨[(0, .t (.s s)), (1, iv a), (3, iv w), (9, .ow ⟨9, c9, o9⟩ 1 0 r), (13, iv m), (14, iv r)], [(⟨9, c9, o9⟩, .row 38 1 (rr ((List.range r).map fun i => rowZ s (a + i * w) w)) false)], ck⟩ =
    some (.exit 0, ⟨[(0, .t (.s s)), (1, iv a), (3, iv w), (9, .ow ⟨9, c', o'⟩ 1 0 m), (13, iv m), (14, iv m)] ++ tl, [(⟨9, c', o'⟩, .row 38 1 (rr (rowsZ s a m w)) false)], ck'⟩) := by
  intro k
  induction k with
  | zero =>
    intro r c9 o9 ck h
    obtain rfl : r = m := by omega
    refine ⟨c9, o9, ck + 1, [(15, bv false)], ?_⟩
    rw [evL_loop]
    simp [f28l1e, rowsZ]
  | succ k ih =>
    intro r c9 o9 ck h
    have hlt : r < m := by omega
    have hltI : (r : Int) < m := by omega
    have hrw : r * w ≤ 1000000 := Nat.le_trans (Nat.mul_le_mul_right w (by omega)) hmw
    have e4 : IntKind.i64.wrap ((r : Int) + 1) = (r : Int) + 1 := wrap_id (by omega) (by omega)
    obtain ⟨c', o', ck0, tl0, h0⟩ := rw_l0 s a w m r c9 o9 r (rr ((List.range r).map fun i => rowZ s (a + i * w) w)) hl hw (by omega) ha (fun c hc => hb r c hlt hc) hrw w 0 (ck + 2) 0 (ck + 4) (by omega)
    obtain ⟨c2, o2, ck', tl, hc⟩ := ih (r + 1) (ck0) 3 (ck0 + 2) (by omega)
    refine ⟨c2, o2, ck', tl, ?_⟩
    rw [range_take_succ] at hc
    have hlen : ((List.range r).map fun i => rowZ s (a + i * w) w).length = r := by simp
    have hwl := rowZ_len s (a + r * w) w
    generalize ((List.range r).map fun i => rowZ s (a + i * w) w) = acc at hlen h0 hc ⊢
    generalize rowZ s (a + r * w) w = Z at *
    have hrr : rr (acc ++ [Z]) = rr acc ++ [[.l (cl Z)]] := by simp [rr]
    have hrl : (rr acc).length = r := by rw [rr_len, hlen]
    have hzl : (cl Z).length = w := by simp [cl, hwl]
    rw [hrr] at hc
    have hb1 : (r + 1) * 24 ≤ 140737488355328 := by omega
    rw [evL_loop_n (s1 := ⟨[(0, .t (.s s)), (1, iv a), (3, iv w), (9, .ow ⟨9, ck0, 3⟩ 1 0 (r + 1)), (13, iv m), (14, iv ((r + 1 : Nat) : Int))], [(⟨9, ck0, 3⟩, .row 38 1 (rr acc ++ [[.l (cl Z)]]) false)], ck0 + 2⟩), hc]
    simp only [rwE, iv, Int.natCast_zero, List.range_zero, List.map_nil, cl] at h0
    simp only [List.cons_append, List.nil_append] at h0
    have htk : List.take w (cl Z) = cl Z := List.take_of_length_le (by omega)
    generalize hcz : (Z.map fun n => ([T.i .i64 n] : List T)) = CZ at *
    have hcz' : cl Z = CZ := hcz
    rw [hcz'] at hzl htk ⊢
    simp [f28l1e, hltI, hlt, e4, h0, rowsOf, treesC, treesOf, treeOf, keysOfs, keysOf1, freezeAll, freeze1, app, elsOf, hrl, hzl, htk, hb1]
theorem rows_ret (s : List UInt8) (a m w : Nat) (hl : s.length ≤ 100000) (hw : w ≤ 1000) (hm : m ≤ 1000) (ha : a ≤ 100000) (hb : ∀ r c, r < m → c < w → 4 * (a + r * w + c) + 4 ≤ s.length) (hmw : m * w ≤ 1000000) : RetT cfg 28 [.t (.s s), iv a, iv m, iv w] (.t (gl (rowsZ s a m w))) := by
  rw [retT_r, runL_pf (fn := f28) rfl rfl]
  obtain ⟨c', o', ck', tl, hc⟩ := rw_l1 s a w m hl hw hm ha hb hmw m 0 1 0 3 (by omega)
  simp only [iv, Int.natCast_zero, List.range_zero, List.map_nil] at hc
  have htk : (rr (rowsZ s a m w)).take m = rr (rowsZ s a m w) := List.take_of_length_le (by rw [rr_len, rowsZ_len]; omega)
  have hrl : (rr (rowsZ s a m w)).length = m := by rw [rr_len, rowsZ_len]
  have hg : gl (rowsZ s a m w) = .l (rr (rowsZ s a m w)) := rfl
  rw [hg]
  generalize rr (rowsZ s a m w) = R at *
  have hr0 : rr [] = [] := rfl
  rw [hr0] at hc
  simp only [List.cons_append, List.nil_append] at hc
  simp [hc, resOf, resOf1, treeOf, htk, hrl]
end Go.Proofs.YtccnadleegcobaaGreat.Pv
end

section
/- A strings.Builder: what copyCheck, WriteString, String do. -/
namespace Go.Proofs.YtccnadleegcobaaGreat.Pv
open Go Go.Pev

abbrev BT : Nat := 65
theorem ck_new {k : Key} {x : V} (s : St) (k' : Key) (h : s.hp.get k = some (.box BT [.t .np, x])) : callEv cfg (runL cfg) 37 [.pt k 2 0 0] s k' = some (.tu [], s.hp.put k k (.box BT [.pt k 2 0 0, x]), s.ck + 3) := by
  refine callEv_h (C := cfg) (c' := s.ck + 2) rfl ?_ k'
  rw [runL_ex (p := ckP BT) rfl]
  unfold ckP
  simp only [h, if_true]
theorem ck_old {k : Key} {x : V} (s : St) (k' : Key) (h : s.hp.get k = some (.box BT [.pt k 2 0 0, x])) : callEv cfg (runL cfg) 37 [.pt k 2 0 0] s k' = some (.tu [], s.hp, s.ck + 3) := by
  refine callEv_h (C := cfg) (c' := s.ck + 2) rfl ?_ k'
  rw [runL_ex (p := ckP BT) rfl]
  unfold ckP
  simp only [h, true_and, if_true]
theorem bytesT_app (a b : List UInt8) : bytesT (a ++ b) = bytesT a ++ bytesT b := by simp [bytesT]
theorem bytesT_all (a : List UInt8) : ((bytesT a).all fun c => c.length == 1) = true := by
  rw [List.all_eq_true]; intro c hc
  obtain ⟨q, _, rfl⟩ := List.mem_map.1 hc
  rfl
theorem bytesT_le (a : List UInt8) : (bytesT a).length = a.length := by simp [bytesT]
/-- The builder's rows are told by their site 14 (WriteString's own). -/
theorem wstr_new (k : Key) (t : List UInt8) (ht : t.length ≤ 140737488355328) (hk : k.s ≠ 14) (r : HP) (ck : Nat) : runL cfg 18 [.pt k 2 0 0, .t (.s t)] ((k, .box BT [.t .np, .nl]) :: r) ck = some (.tu [iv t.length, .t .ni], (⟨14, ck + 5, 6⟩, .row 5 1 (bytesT t) false) :: (k, .box BT [.pt k 2 0 0, .ow ⟨14, ck + 5, 6⟩ 1 0 t.length]) :: r, ck + 7) := by
  have h1 := fun s k' h => ck_new (k := k) (x := .nl) s k' h
  rw [runL_pf (fn := f18) rfl rfl]
  have e1 : ¬ (⟨14, ck + 5, 6⟩ : Key) = k := by rintro rfl; exact hk rfl
  have hb : t.length * 1 ≤ 140737488355328 := by omega
  simp [h1, app, elsOf, treeOf, bytesT_all, bytesT_le, ht, over, e1]

/-- A builder at k that holds bytes. -/
abbrev bldH (k : Key) (c o : Nat) (bs : List UInt8) (r : HP) : HP := (⟨14, c, o⟩, .row 5 1 (bytesT bs) false) :: (k, .box BT [.pt k 2 0 0, .ow ⟨14, c, o⟩ 1 0 bs.length]) :: r
theorem wstr_old (k : Key) (c o : Nat) (bs t : List UInt8) (ht : bs.length + t.length ≤ 140737488355328) (hk : k.s ≠ 14) (r : HP) (ck : Nat) : runL cfg 18 [.pt k 2 0 0, .t (.s t)] (bldH k c o bs r) ck = some (.tu [iv t.length, .t .ni], bldH k (ck + 5) 6 (bs ++ t) r, ck + 7) := by
  have h1 := fun s k' h => ck_old (k := k) (x := .ow ⟨14, c, o⟩ 1 0 bs.length) s k' h
  rw [runL_pf (fn := f18) rfl rfl]
  have e1 : ∀ c o, ¬ (⟨14, c, o⟩ : Key) = k := by rintro c o rfl; exact hk rfl
  simp [bldH, h1, app, elsOf, treeOf, bytesT_all, bytesT_le, ht, over, e1, bytesT_app]
theorem wstr_new_call (k : Key) (t : List UInt8) (ht : t.length ≤ 140737488355328) (hk : k.s ≠ 14) (r : HP) (e : Env) (ck : Nat) (k' : Key) : callEv cfg (runL cfg) 18 [.pt k 2 0 0, .t (.s t)] ⟨e, (k, .box BT [.t .np, .nl]) :: r, ck⟩ k' = some (.tu [iv t.length, .t .ni], bldH k (ck + 6) 6 t r, ck + 9) :=
  callEv_h (C := cfg) rfl (wstr_new k t ht hk r (ck + 1)) k'
theorem wstr_call (k : Key) (c o : Nat) (bs t : List UInt8) (ht : bs.length + t.length ≤ 140737488355328) (hk : k.s ≠ 14) (r : HP) (e : Env) (ck : Nat) (k' : Key) : callEv cfg (runL cfg) 18 [.pt k 2 0 0, .t (.s t)] ⟨e, bldH k c o bs r, ck⟩ k' = some (.tu [iv t.length, .t .ni], bldH k (ck + 6) 6 (bs ++ t) r, ck + 9) :=
  callEv_h (C := cfg) rfl (wstr_old k c o bs t ht hk r (ck + 1)) k'
theorem bstr_call (k : Key) (c o : Nat) (bs : List UInt8) (hb : bs ≠ []) (hk : k.s ≠ 14) (r : HP) (e : Env) (ck : Nat) (k' : Key) : callEv cfg (runL cfg) 20 [.pt k 2 0 0] ⟨e, bldH k c o bs r, ck⟩ k' = some (.t (.s bs), (k, .bls BT 5 bs) :: r, ck + 3) := by
  refine callEv_h (C := cfg) (c' := ck + 2) rfl ?_ k'
  rw [runL_ex (p := strP BT 5) rfl]
  have e1 : ¬ (⟨14, c, o⟩ : Key) = k := by rintro rfl; exact hk rfl
  have hl : 0 < bs.length := List.length_pos_iff.2 hb
  unfold strP
  simp [bldH, HP.get, e1, u8x_bytes, bytesT_le, hl, HP.del, HP.put]
theorem bstr_again (k : Key) (bs : List UInt8) (r : HP) (e : Env) (ck : Nat) (k' : Key) : callEv cfg (runL cfg) 20 [.pt k 2 0 0] ⟨e, (k, .bls BT 5 bs) :: r, ck⟩ k' = some (.t (.s bs), (k, .bls BT 5 bs) :: r, ck + 3) := by
  refine callEv_h (C := cfg) (c' := ck + 2) rfl ?_ k'
  rw [runL_ex (p := strP BT 5) rfl]
  unfold strP
  simp [HP.get]
end Go.Proofs.YtccnadleegcobaaGreat.Pv
end

section
/- Held numbers, rows of them, the greatest two, shares: plainly. -/
namespace Go.Proofs.YtccnadleegcobaaGreat.Pv

/-- Held between the greatest and the least. -/
def hold (n : Int) : Int := if 2147483647 < n then 2147483647 else if n < -2147483647 then -2147483647 else n
theorem hold_in (n : Int) : -2147483647 ≤ hold n ∧ hold n ≤ 2147483647 := by
  unfold hold; split
  · omega
  · split <;> omega
/-- As the program has it: by min and max. -/
theorem hold_mm (n : Int) : (if -2147483647 < (if n < 2147483647 then n else 2147483647) then (if n < 2147483647 then n else 2147483647) else -2147483647) = hold n := by
  unfold hold
  by_cases h1 : n < 2147483647
  · rw [if_pos h1]
    by_cases h2 : -2147483647 < n
    · rw [if_pos h2, if_neg (by omega), if_neg (by omega)]
    · rw [if_neg h2, if_neg (by omega)]
      by_cases h3 : n < -2147483647
      · rw [if_pos h3]
      · rw [if_neg h3]; omega
  · rw [if_neg h1, if_pos (by omega)]
    by_cases h3 : 2147483647 < n
    · rw [if_pos h3]
    · rw [if_neg h3, if_neg (by omega)]; omega
def fmul (a b : Int) : Int := hold ((hold a * hold b).tdiv 65536)
theorem held_mul (a b : Int) : -4611686018427387904 < hold a * hold b ∧ hold a * hold b < 4611686018427387904 := by
  have h1 := hold_in a
  have h2 := hold_in b
  have h3 : (hold a * hold b).natAbs ≤ 2147483647 * 2147483647 := by
    rw [Int.natAbs_mul]
    exact Nat.mul_le_mul (by omega) (by omega)
  omega

/-- The products, added. -/
def dot : List Int → List Int → Int → Int
  | x :: a, y :: b, s => dot a b (hold (hold s + hold (fmul x y)))
  | _, _, s => s
def scoresP (rows : List (List Int)) (v : List Int) : List Int := rows.map fun l => dot l v 0

/-! ### the greatest two -/
def bes (v : List Int) (but : Int) : List Int → Nat → Int → Int
  | [], _, best => best
  | x :: r, i, best => bes v but r (i + 1) (if (i : Int) ≠ but ∧ (best < 0 ∨ v.getD best.toNat 0 < x) then i else best)
def ahead (v : List Int) (at_ i : Nat) : Bool := decide (v.getD at_ 0 < v.getD i 0) || (decide (v.getD i 0 = v.getD at_ 0) && decide (i < at_))
/-- Nobody but one is ahead of it. -/
def Top1 (v : List Int) (but : Int) (n : Nat) (b : Int) : Prop := (b = -1 ∧ ∀ i : Nat, i < n → (i : Int) = but) ∨ (0 ≤ b ∧ b < n ∧ b ≠ but ∧ ∀ i : Nat, i < n → (i : Int) ≠ but → (i : Int) ≠ b → ahead v i b.toNat = true)
theorem bes_top (v : List Int) (but : Int) : ∀ (r : List Int) (i : Nat) (best : Int), v.drop i = r → i ≤ v.length → Top1 v but i best → Top1 v but v.length (bes v but r i best)
  | [], i, best, hd, hi, h => by
    have : i = v.length := by
      have := congrArg List.length hd
      simp at this; omega
    subst this
    unfold bes; exact h
  | x :: r, i, best, hd, hi, h => by
    have hlt : i < v.length := by
      have := congrArg List.length hd
      simp at this; omega
    have hx : v.getD i 0 = x := by
      rw [List.drop_eq_getElem_cons hlt] at hd
      rw [List.getD_eq_getElem?_getD, List.getElem?_eq_getElem hlt]
      exact (List.cons.inj hd).1
    have hr : v.drop (i + 1) = r := by
      rw [List.drop_eq_getElem_cons hlt] at hd
      exact (List.cons.inj hd).2
    unfold bes
    refine bes_top v but r (i + 1) _ hr (by omega) ?_
    by_cases hb : (i : Int) = but
    · rw [if_neg (fun q => q.1 hb)]
      rcases h with ⟨h1, h2⟩ | ⟨h1, h2, h3, h4⟩
      · refine .inl ⟨h1, fun j hj => ?_⟩
        by_cases e : j = i
        · subst e; exact hb
        · exact h2 j (by omega)
      · refine .inr ⟨h1, by omega, h3, fun j hj hjb hjn => ?_⟩
        by_cases e : j = i
        · subst e; exact absurd hb hjb
        · exact h4 j (by omega) hjb hjn
    · by_cases hc : best < 0 ∨ v.getD best.toNat 0 < x
      · rw [if_pos ⟨hb, hc⟩]
        refine .inr ⟨by omega, by omega, hb, fun j hj hjb hjn => ?_⟩
        have hji : j < i := by omega
        rw [Int.toNat_natCast]
        rcases h with ⟨h1, h2⟩ | ⟨h1, h2, h3, h4⟩
        · exact absurd (h2 j hji) hjb
        · have hgt : v.getD best.toNat 0 < x := hc.resolve_left (by omega)
          by_cases e : (j : Int) = best
          · have : best.toNat = j := by omega
            rw [this] at hgt
            simp only [ahead, hx, Bool.or_eq_true, decide_eq_true_eq]
            exact .inl hgt
          · have := h4 j hji hjb e
            simp only [ahead, Bool.or_eq_true, Bool.and_eq_true, decide_eq_true_eq] at this ⊢
            rw [hx]
            rcases this with h | h
            · exact .inl (by omega)
            · exact .inl (by omega)
      · rw [if_neg (fun q => hc q.2)]
        rw [not_or] at hc
        rcases h with ⟨h1, h2⟩ | ⟨h1, h2, h3, h4⟩
        · exact absurd h1 (by omega)
        · refine .inr ⟨h1, by omega, h3, fun j hj hjb hjn => ?_⟩
          by_cases e : j = i
          · subst e
            simp only [ahead, hx, Bool.or_eq_true, Bool.and_eq_true, decide_eq_true_eq]
            by_cases he : x = v.getD best.toNat 0
            · exact .inr ⟨by omega, by omega⟩
            · exact .inl (by omega)
          · exact h4 j (by omega) hjb hjn
def twoP (v : List Int) : Int × Int := (bes v (-1) v 0 (-1), bes v (bes v (-1) v 0 (-1)) v 0 (-1))
/-! ### shares -/
def partP (n : Int) : Int := if hold n < 0 then 1 else hold n + 1
theorem partP_in (n : Int) : 1 ≤ partP n ∧ partP n ≤ 2147483648 := by
  have := hold_in n
  unfold partP; split <;> omega
def shareP (a b : Int) : Int := (partP a * 65536).tdiv (partP a + partP b)
end Go.Proofs.YtccnadleegcobaaGreat.Pv
end

section
/- What fix, and the rows of numbers (vec), tell. -/
namespace Go.Proofs.YtccnadleegcobaaGreat.Pv
open Go Go.Pev

theorem callEv_cl {C : Cfg} {f : Nat} {args : List V} {x : V} (h : RetT C f args x) (hm : C.hpm f = false) (ho : C.own f = false) (hx : flatV x = true) (s : St) (k : Key) (hps : puresOf s.hp args = some args) : callEv C (runL C) f args s k = some (x, s.hp, s.ck) := callEv_t hm ho hps h (.inl hx)

theorem hold_ret (n : Int) : RetT cfg 55 [iv n] (iv (hold n)) := by
  refine RetT.of ?_
  rw [runL_pf (fn := f55) rfl rfl]
  have h := hold_mm n
  simp [minmax, h]
theorem hold_call (n : Int) (s : St) (k : Key) : callEv cfg (runL cfg) 55 [.t (.i .i64 n)] s k = some (.t (.i .i64 (hold n)), s.hp, s.ck) := callEv_tr (C := cfg) (hold_ret n) rfl rfl rfl s k
def fadd (a b : Int) : Int := hold (hold a + hold b)
theorem fadd_ret (a b : Int) : RetT cfg 82 [iv a, iv b] (iv (fadd a b)) := by
  have h1 := hold_in a
  have h2 := hold_in b
  have hw : IntKind.i64.wrap (hold a + hold b) = hold a + hold b := wrap_id (by omega) (by omega)
  refine RetT.of ?_
  rw [runL_pf (fn := f82) rfl rfl]
  simp [hold_call, hw, fadd]
theorem fadd_call (a b : Int) (s : St) (k : Key) : callEv cfg (runL cfg) 82 [.t (.i .i64 a), .t (.i .i64 b)] s k = some (.t (.i .i64 (fadd a b)), s.hp, s.ck) := callEv_tr (C := cfg) (fadd_ret a b) rfl rfl rfl s k
theorem tdiv_le (x : Int) : (x.tdiv 65536).natAbs ≤ x.natAbs := by
  rw [Int.natAbs_tdiv]; exact Nat.div_le_self _ _
theorem fmul_ret (a b : Int) : RetT cfg 84 [iv a, iv b] (iv (fmul a b)) := by
  have h1 := held_mul a b
  have h2 := tdiv_le (hold a * hold b)
  have hw : IntKind.i64.wrap (hold a * hold b) = hold a * hold b := wrap_id (by omega) (by omega)
  have hw2 : IntKind.i64.wrap ((hold a * hold b).tdiv 65536) = (hold a * hold b).tdiv 65536 := wrap_id (by omega) (by omega)
  refine RetT.of ?_
  rw [runL_pf (fn := f84) rfl rfl]
  simp [hold_call, hw, hw2, fmul]
theorem fmul_call (a b : Int) (s : St) (k : Key) : callEv cfg (runL cfg) 84 [.t (.i .i64 a), .t (.i .i64 b)] s k = some (.t (.i .i64 (fmul a b)), s.hp, s.ck) := callEv_tr (C := cfg) (fmul_ret a b) rfl rfl rfl s k

/-! ### the products, added -/
theorem dot_drop {a b : List Int} {i : Nat} (ha : i < a.length) (hb : i < b.length) (s : Int) : dot (a.drop i) (b.drop i) s = dot (a.drop (i + 1)) (b.drop (i + 1)) (fadd s (fmul a[i] b[i])) := by
  rw [List.drop_eq_getElem_cons ha, List.drop_eq_getElem_cons hb]; rfl
theorem dot_ret (a b : List Int) (hl : a.length ≤ 1000000) : RetT cfg 78 [.t (il a), .t (il b)] (.tu [iv (if a.length = b.length then dot a b 0 else 0), bv (decide (a.length = b.length))]) := by
  by_cases hab : a.length = b.length
  · have hL : ∀ ck, ∃ c, evL cfg (.loop f78l0) ⟨[(1, .t (il b)), (6, iv 0), (14, .t (il a)), (15, iv a.length), (16, iv 0)], [], ck⟩ = some (.exit 0, ⟨[(1, .t (il b)), (6, iv (dot a b 0)), (14, .t (il a)), (15, iv a.length), (16, iv a.length), (17, bv false)], [], c⟩) := by
      intro ck
      refine loop_q (Q := fun E => ∃ c, E = some (.exit 0, ⟨[(1, .t (il b)), (6, iv (dot a b 0)), (14, .t (il a)), (15, iv a.length), (16, iv a.length), (17, bv false)], [], c⟩)) a.length (fun i s => ∃ acc ck, dot (a.drop i) (b.drop i) acc = dot a b 0 ∧ s = ⟨[(1, .t (il b)), (6, iv acc), (14, .t (il a)), (15, iv a.length), (16, iv (i : Int))], [], ck⟩) ?_ ?_ _ ⟨0, ck, rfl, rfl⟩
      · rintro i s hi ⟨acc, ck, h1, rfl⟩
        have hib : i < b.length := by omega
        have hw : IntKind.i64.wrap ((i : Int) + 1) = (i : Int) + 1 := wrap_id (by omega) (by omega)
        rw [dot_drop hi hib] at h1
        simp [f78l0e, il, hi, hib, hw, fmul_call, fadd_call]
        exact h1
      · rintro s ⟨acc, ck, h1, rfl⟩
        simp [dot] at h1
        subst h1
        simp [f78l0e]
    obtain ⟨c, hc⟩ := hL 4
    simp [il] at hc
    rw [if_pos hab, decide_eq_true hab]
    rw [retT_r, runL_pf (fn := f78) rfl rfl]
    have hne : ((a.length : Int) != (b.length : Int)) = false := by simp [hab]
    simp [il, hne, hc, resOf, resOfs, resOf1]
  · rw [if_neg hab]
    rw [retT_r, runL_pf (fn := f78) rfl rfl]
    have hne : ((a.length : Int) != (b.length : Int)) = true := by simp; omega
    simp [il, hne, hab, resOf, resOfs, resOf1]
theorem dot_call (a b : List Int) (hl : a.length ≤ 1000000) (s : St) (k : Key) : callEv cfg (runL cfg) 78 [.t (.l (a.map fun n => [.i .i64 n])), .t (.l (b.map fun n => [.i .i64 n]))] s k = some (.tu [.t (.i .i64 (if a.length = b.length then dot a b 0 else 0)), .t (.b (decide (a.length = b.length)))], s.hp, s.ck) := callEv_tr (C := cfg) (dot_ret a b hl) rfl rfl rfl s k

/-! ### each -/
def eachQ (g : Nat) (caps : List V) (a : List Int) (φ : Nat → Int → Int) (E : Option (Ex × St)) : Prop := ∃ c o ck, E = some (.exit 0, ⟨[(1, .fn g caps), (5, .ow ⟨5, c, o⟩ 1 0 a.length), (8, .t (il a)), (9, iv a.length), (10, iv a.length), (11, bv false)], [(⟨5, c, o⟩, .row 3 1 (cl (a.mapIdx φ)) false)], ck⟩)
def eachP (g : Nat) (caps : List V) (a : List Int) (φ : Nat → Int → Int) (i : Nat) (s : St) : Prop := ∃ c o ck els, els = cl ((a.mapIdx φ).take i) ∧ s = ⟨[(1, .fn g caps), (5, .ow ⟨5, c, o⟩ 1 0 i), (8, .t (il a)), (9, iv a.length), (10, iv (i : Int))], [(⟨5, c, o⟩, .row 3 1 els false)], ck⟩
theorem take_mapIdx {a : List Int} (φ : Nat → Int → Int) {i : Nat} (hi : i < a.length) : cl ((a.mapIdx φ).take (i + 1)) = cl ((a.mapIdx φ).take i) ++ [[.i .i64 (φ i a[i])]] := by
  rw [List.take_succ_eq_append_getElem (by simpa using hi)]
  simp [cl]
theorem each_ret (a : List Int) (g : Nat) (caps : List V) (φ : Nat → Int → Int) (hl : a.length ≤ 1000000) (hp : ∀ (i : Nat) (hi : i < a.length) (s : St) (k : Key), callEv cfg (runL cfg) g (iv i :: iv a[i] :: caps) s k = some (iv (φ i a[i]), s.hp, s.ck)) : RetT cfg 79 [.t (il a), .fn g caps] (.t (il (a.mapIdx φ))) := by
  have hL : ∀ c o ck, eachQ g caps a φ (evL cfg (.loop f79l0) ⟨[(1, .fn g caps), (5, .ow ⟨5, c, o⟩ 1 0 0), (8, .t (il a)), (9, iv a.length), (10, iv 0)], [(⟨5, c, o⟩, .row 3 1 [] false)], ck⟩) := by
    intro c o ck
    refine loop_q a.length (eachP g caps a φ) ?_ ?_ _ ⟨c, o, ck, [], rfl, rfl⟩
    · rintro i s hi ⟨c, o, ck, els, h1, rfl⟩
      have hw : IntKind.i64.wrap ((i : Int) + 1) = (i : Int) + 1 := wrap_id (by omega) (by omega)
      have hlen : els.length = i := by rw [h1]; simp [cl]; omega
      have hb : (i + 1) * 8 ≤ 140737488355328 := by omega
      have hc := hp i hi
      simp only [iv] at hc
      have ht := take_mapIdx φ hi
      simp [f79l0e, il, hi, hw, hc, rowsOf, keysOfs, treesC, treesOf, treeOf, freezeAll, app, elsOf, over, hb, hlen]
      exact ⟨_, _, _, _, by rw [ht, h1], rfl⟩
    · rintro s ⟨c, o, ck, els, h1, rfl⟩
      have h2 : (a.mapIdx φ).take a.length = a.mapIdx φ := List.take_of_length_le (by simp)
      rw [h2] at h1
      subst h1
      simp [f79l0e]
      exact ⟨_, _, _, rfl⟩
  obtain ⟨c, o, ck, hc⟩ := hL 1 0 3
  simp [il] at hc
  rw [retT_r, runL_pf (fn := f79) rfl rfl]
  simp [il, hc, resOf, resOf1, treeOf, cl, List.take_of_length_le]
end Go.Proofs.YtccnadleegcobaaGreat.Pv
end

section
/- What rows of numbers, matrices, and experts tell (vec, mat, expert). -/
namespace Go.Proofs.YtccnadleegcobaaGreat.Pv
open Go Go.Pev

/-- A call with a function value whose captured variables hold no row of one's own. -/
theorem callEv_fnk {C : Cfg} {f g : Nat} {x : T} {caps caps0 : List V} {v : V} (h : RetT C f [.t x, .fn g caps] v) (hm : C.hpm f = false) (ho : C.own f = false) (s : St) (k : Key) (hc : capsOf s.hp caps0 = some caps) (hk : caps0.flatMap (keysOf1 s.hp) = []) : callEv C (runL C) f [.t x, .fn g caps0] s k = some (v, s.hp, s.ck) :=
  callEv_t hm ho (by simp [puresOf, pureOf, hc]) h (.inr (by simp [keysOf, hk]))

def scaleR (a : List Int) (k : Int) : List Int := a.map fun x => fmul x k
def reluR (a : List Int) : List Int := a.map fun x => if hold x < 0 then 0 else hold x
def addR (a b : List Int) : List Int := List.zipWith fadd a b

theorem scale1_ret (i x n : Int) : RetT cfg 83 [iv i, iv x, .pr [.i .i64 n]] (iv (fmul x n)) := by
  refine RetT.of ?_
  rw [runL_pf (fn := f83) rfl rfl]
  simp [fmul_call]
theorem scale_ret (a : List Int) (n : Int) (hl : a.length ≤ 1000000) : RetT cfg 62 [.t (il a), iv n] (.t (il (scaleR a n))) := by
  have he := each_ret a 83 [.pr [.i .i64 n]] (fun _ x => fmul x n) hl (fun i hi s k => callEv_cl (C := cfg) (scale1_ret i a[i] n) rfl rfl rfl s k (by simp [puresOf, pureOf]))
  have e : a.mapIdx (fun _ x => fmul x n) = scaleR a n := List.ext_getElem (by simp [scaleR]) (by simp [scaleR])
  rw [e] at he
  have hE := fun (s : St) (k : Key) => callEv_fnk (C := cfg) (caps0 := [.pt ⟨3, 0, 0⟩ 1 0 0]) he rfl rfl s k
  simp only [il] at hE
  rw [retT_r, runL_pf (fn := f62) rfl rfl]
  simp [il, hE, capsOf, capOf, treesOf, treeOf, keysOf1, resOf, resOf1]
theorem relu1_ret (i x : Int) : RetT cfg 80 [iv i, iv x] (iv (if hold x < 0 then 0 else hold x)) := by
  refine RetT.of ?_
  rw [runL_pf (fn := f80) rfl rfl]
  simp [hold_call, minmax]
theorem relu_ret (a : List Int) (hl : a.length ≤ 1000000) : RetT cfg 59 [.t (il a)] (.t (il (reluR a))) := by
  have he := each_ret a 80 [] (fun _ x => if hold x < 0 then 0 else hold x) hl (fun i hi s k => callEv_cl (C := cfg) (relu1_ret i a[i]) rfl rfl rfl s k (by simp [puresOf, pureOf]))
  have e : a.mapIdx (fun _ x => if hold x < 0 then 0 else hold x) = reluR a := List.ext_getElem (by simp [reluR]) (by simp [reluR])
  rw [e] at he
  have hE := fun (s : St) (k : Key) => callEv_fnk (C := cfg) (caps0 := []) he rfl rfl s k rfl rfl
  simp only [il] at hE
  rw [retT_r, runL_pf (fn := f59) rfl rfl]
  simp [il, hE, resOf, resOf1]
theorem add1_ret (i : Nat) (x : Int) (b : List Int) (hi : i < b.length) : RetT cfg 81 [iv i, iv x, .pr [il b]] (iv (fadd x b[i])) := by
  refine RetT.of ?_
  rw [runL_pf (fn := f81) rfl rfl]
  simp [fadd_call, il, hi]
theorem vadd_ret (a b : List Int) (hl : a.length ≤ 1000000) : RetT cfg 61 [.t (il a), .t (il b)] (.tu [.t (il (if a.length = b.length then addR a b else [])), bv (decide (a.length = b.length))]) := by
  rw [retT_r, runL_pf (fn := f61) rfl rfl]
  by_cases hab : a.length = b.length
  · have he := each_ret a 81 [.pr [il b]] (fun i x => fadd x (b.getD i 0)) hl (fun i hi s k => by
      have hib : i < b.length := by omega
      have hg : b.getD i 0 = b[i] := by simp [List.getD_eq_getElem?_getD, hib]
      rw [hg]
      exact callEv_cl (C := cfg) (add1_ret i a[i] b hib) rfl rfl rfl s k (by simp [puresOf, pureOf]))
    have e : a.mapIdx (fun i x => fadd x (b.getD i 0)) = addR a b := List.ext_getElem (by simp [addR]; omega) (fun i h1 h2 => by
      simp at h1
      have hib : i < b.length := by omega
      simp [addR, List.getD_eq_getElem?_getD, hib])
    rw [e] at he
    have hE := fun (s : St) (k : Key) => callEv_fnk (C := cfg) (caps0 := [.pt ⟨3, 0, 0⟩ 1 0 0]) he rfl rfl s k
    simp only [il] at hE
    have hne : ((a.length : Int) != (b.length : Int)) = false := by simp [hab]
    rw [if_pos hab, decide_eq_true hab]
    simp [il, hE, hne, capsOf, capOf, treesOf, treeOf, keysOf1, resOf, resOfs, resOf1]
  · have hne : ((a.length : Int) != (b.length : Int)) = true := by simp; omega
    rw [if_neg hab]
    simp [il, hne, hab, resOf, resOfs, resOf1, treeOf]

/-! ### rows by a row -/
def matOk (m : List (List Int)) (n : Nat) : Bool := m.all fun l => decide (l.length = n)
def apQ (m : List (List Int)) (v : List Int) (E : Option (Ex × St)) : Prop :=
  (matOk m v.length = true ∧ ∃ c o ck, E = some (.exit 0, ⟨[(1, .t (il v)), (6, .ow ⟨6, c, o⟩ 1 0 m.length), (11, .t (gl m)), (12, iv m.length), (13, iv m.length), (14, bv false)], [(⟨6, c, o⟩, .row 3 1 (cl (scoresP m v)) false)], ck⟩)) ∨
  (matOk m v.length = false ∧ ∃ c r ck, E = some (.ret, ⟨[(4, .ow ⟨4, c, 0⟩ 1 0 0), (5, bv false)], (⟨4, c, 0⟩, .row 3 1 [] false) :: r, ck⟩))
def apP (m : List (List Int)) (v : List Int) (i : Nat) (s : St) : Prop := ∃ c o ck els, els = cl ((scoresP m v).take i) ∧ (∀ (j : Nat) (hj : j < m.length), j < i → m[j].length = v.length) ∧ s = ⟨[(1, .t (il v)), (6, .ow ⟨6, c, o⟩ 1 0 i), (11, .t (gl m)), (12, iv m.length), (13, iv (i : Int))], [(⟨6, c, o⟩, .row 3 1 els false)], ck⟩
theorem apply_ret (m : List (List Int)) (v : List Int) (hl : m.length ≤ 1000000) (hr : ∀ r ∈ m, r.length ≤ 1000000) : RetT cfg 58 [.t (gl m), .t (il v)] (.tu [.t (il (if matOk m v.length then scoresP m v else [])), bv (matOk m v.length)]) := by
  have hL : ∀ c o ck, apQ m v (evL cfg (.loop f58l0) ⟨[(1, .t (il v)), (6, .ow ⟨6, c, o⟩ 1 0 0), (11, .t (gl m)), (12, iv m.length), (13, iv 0)], [(⟨6, c, o⟩, .row 3 1 [] false)], ck⟩) := by
    intro c o ck
    refine loop_q m.length (apP m v) ?_ ?_ _ ⟨c, o, ck, [], rfl, fun j hj h => absurd h (Nat.not_lt_zero j), rfl⟩
    · rintro i s hi ⟨c, o, ck, els, h1, h2, rfl⟩
      have hw : IntKind.i64.wrap ((i : Int) + 1) = (i : Int) + 1 := wrap_id (by omega) (by omega)
      have hlen : els.length = i := by rw [h1]; simp [cl, scoresP]; omega
      have hb : (i + 1) * 8 ≤ 140737488355328 := by omega
      have hd := fun s k => dot_call m[i] v (hr _ (List.getElem_mem hi)) s k
      by_cases hx : m[i].length = v.length
      · have ht : cl ((scoresP m v).take (i + 1)) = cl ((scoresP m v).take i) ++ [[.i .i64 (dot m[i] v 0)]] := by
          rw [List.take_succ_eq_append_getElem (by simpa [scoresP] using hi)]
          simp [cl, scoresP]
        simp [f58l0e, il, gl, hi, hw, hd, hx, rowsOf, keysOfs, treesC, treesOf, treeOf, freezeAll, app, elsOf, over, hb, hlen]
        refine ⟨_, _, _, _, by rw [ht, h1], fun j hj hji => ?_, rfl⟩
        by_cases e : j = i
        · subst e; exact hx
        · exact h2 j hj (by omega)
      · have hno : matOk m v.length = false := by
          unfold matOk
          rw [List.all_eq_false]
          exact ⟨m[i], List.getElem_mem hi, by simpa using hx⟩
        simp [f58l0e, il, gl, hi, hw, hd, hx]
        exact .inr ⟨hno, _, _, _, rfl⟩
    · rintro s ⟨c, o, ck, els, h1, h2, rfl⟩
      have h3 : (scoresP m v).take m.length = scoresP m v := List.take_of_length_le (by simp [scoresP])
      rw [h3] at h1
      subst h1
      have hok : matOk m v.length = true := by
        unfold matOk
        rw [List.all_eq_true]
        intro l hl
        obtain ⟨j, hj, rfl⟩ := List.getElem_of_mem hl
        simpa using h2 j hj hj
      simp [f58l0e]
      exact .inl ⟨hok, _, _, _, rfl⟩
  have hq := hL 1 0 3
  rw [retT_r, runL_pf (fn := f58) rfl rfl]
  rcases hq with ⟨hok, c, o, ck, hc⟩ | ⟨hok, c, r, ck, hc⟩
  · simp [il, gl] at hc
    simp [il, gl, hc, hok, resOf, resOfs, resOf1, treeOf, cl, List.take_of_length_le, scoresP]
  · simp [il, gl] at hc
    simp [il, gl, hc, hok, resOf, resOfs, resOf1, treeOf]
end Go.Proofs.YtccnadleegcobaaGreat.Pv
end

section
/- What mat.Right, the experts, top, share and gate tell. -/
namespace Go.Proofs.YtccnadleegcobaaGreat.Pv
open Go Go.Pev

def heldRow (l : List Int) : Bool := l.all fun n => decide (hold n = n)
def mrightP (m : List (List Int)) (r c : Int) : Bool := decide ((m.length : Int) = r) && m.all fun l => decide ((l.length : Int) = c) && heldRow l
theorem mr11_ret (n : Int) : RetT cfg 64 [iv n] (bv (hold n != n)) := by
  refine RetT.of ?_
  rw [runL_pf (fn := f64) rfl rfl]
  simp [hold_call]
/-- The function value that asks whether a number is not held. -/
theorem notheld_ret {g : Nat} (hm : cfg.hpm g = false) (ho : cfg.own g = false) (hg : ∀ n, RetT cfg g [iv n] (bv (hold n != n))) (l : List Int) (hl : l.length ≤ 1000000) : RetT cfg 53 [.t (il l), .fn g []] (bv (!heldRow l)) := by
  have e : (!heldRow l) = l.any fun n => hold n != n := by
    unfold heldRow
    rw [List.not_all_eq_any_not]
    congr 1
  rw [e]
  refine ctf_run (ix := 75) rfl rfl rfl rfl (fun _ => rfl) ?_
  refine ixf_run (ag := false) (sz := 1) (fun n : Int => [.i .i64 n]) _ iv rfl rfl (by simp) (by simp) hl ?_
  intro n _ s k hs
  exact ⟨s.ck, by rw [callEv_cl (C := cfg) (hg n) hm ho rfl s k (by simp [puresOf, pureOf]), hs]; rfl⟩
theorem mr1_ret (l : List Int) (c : Int) (hl : l.length ≤ 1000000) : RetT cfg 63 [.t (il l), .pr [.i .i64 c]] (bv (!(decide ((l.length : Int) = c) && heldRow l))) := by
  have h1 := fun s k => callEv_fn (C := cfg) (caps0 := []) (notheld_ret (g := 64) rfl rfl mr11_ret l hl) rfl rfl rfl s k rfl
  simp only [il, bv] at h1
  refine RetT.of ?_
  rw [runL_pf (fn := f63) rfl rfl]
  by_cases hc : (l.length : Int) = c
  · have hb : ((l.length : Int) != c) = false := by simp [hc]
    simp [il, h1, hb, hc]
  · have hb : ((l.length : Int) != c) = true := by simp [hc]
    simp [il, h1, hb, hc]
theorem mright_ret (m : List (List Int)) (r c : Int) (hl : m.length ≤ 1000000) (hr : ∀ l ∈ m, l.length ≤ 1000000) : RetT cfg 36 [.t (gl m), iv r, iv c] (bv (mrightP m r c)) := by
  have h1 : RetT cfg 51 [.t (gl m), .fn 63 [.pr [.i .i64 c]]] (bv (!(m.all fun l => decide ((l.length : Int) = c) && heldRow l))) := by
    rw [List.not_all_eq_any_not]
    refine ctf_run (ix := 74) rfl rfl rfl rfl (fun _ => rfl) ?_
    refine ixf_run (ag := false) (sz := 1) (fun l : List Int => [il l]) _ (fun l => .t (il l)) rfl rfl (by simp) (by simp) hl ?_
    intro l hlm s k hs
    exact ⟨s.ck, by rw [callEv_cl (C := cfg) (mr1_ret l c (hr l hlm)) rfl rfl rfl s k (by simp [puresOf, pureOf, capsOf, capOf]), hs]; rfl⟩
  have h2 := fun s k => callEv_fn (C := cfg) (caps0 := [.pt ⟨5, 0, 0⟩ 1 0 0]) h1 rfl rfl rfl s k
  simp only [gl, bv] at h2
  refine RetT.of ?_
  rw [runL_pf (fn := f36) rfl rfl]
  unfold mrightP
  by_cases hc : (m.length : Int) = r
  · simp [gl, h2, hc, capsOf, capOf, treesOf, treeOf]
  · have hb : ((m.length : Int) == r) = false := by simp [hc]
    simp [gl, h2, hc, hb, capsOf, capOf, treesOf, treeOf]
theorem mright_call (m : List (List Int)) (r c : Int) (hl : m.length ≤ 1000000) (hr : ∀ l ∈ m, l.length ≤ 1000000) (s : St) (k : Key) : callEv cfg (runL cfg) 36 [.t (.l (m.map fun r => [.l (r.map fun n => [.i .i64 n])])), .t (.i .i64 r), .t (.i .i64 c)] s k = some (.t (.b (mrightP m r c)), s.hp, s.ck) := callEv_tr (C := cfg) (mright_ret m r c hl hr) rfl rfl rfl s k

/-! ### experts -/
structure Exp where
  inn : List (List Int)
  out : List (List Int)
def exT (x : Exp) : List T := [gl x.inn, gl x.out]
def exV (x : Exp) : V := .ag [.t (gl x.inn), .t (gl x.out)]
/-- Rows few enough to be gone through. -/
def Few (m : List (List Int)) : Prop := m.length ≤ 1000000 ∧ ∀ l ∈ m, l.length ≤ 1000000
def exRight (x : Exp) (dim : Int) : Bool := decide (1 ≤ dim) && decide (dim ≤ 8) && decide (1 ≤ x.inn.length) && decide (x.inn.length ≤ 8) && mrightP x.inn x.inn.length dim && mrightP x.out dim x.inn.length
theorem eright_ret (x : Exp) (dim : Int) (h1 : Few x.inn) (h2 : Few x.out) : RetT cfg 17 [exV x, iv dim] (bv (exRight x dim)) := by
  have hA := fun s k => mright_call x.inn x.inn.length dim h1.1 h1.2 s k
  have hB := fun s k => mright_call x.out dim x.inn.length h2.1 h2.2 s k
  refine RetT.of ?_
  rw [runL_pf (fn := f17) rfl rfl]
  unfold exRight exV
  by_cases c1 : 1 ≤ dim
  case neg => simp [gl, c1]
  by_cases c2 : dim ≤ 8
  case neg => simp [gl, c1, c2]
  by_cases c3 : 1 ≤ x.inn.length
  case neg =>
    have c3' : ¬ (1 : Int) ≤ x.inn.length := by omega
    simp [gl, c1, c2, c3, c3']
  have c3' : (1 : Int) ≤ x.inn.length := by omega
  by_cases c4 : x.inn.length ≤ 8
  case neg =>
    have c4' : ¬ (x.inn.length : Int) ≤ 8 := by omega
    simp [gl, c1, c2, c3, c3', c4, c4']
  have c4' : (x.inn.length : Int) ≤ 8 := by omega
  by_cases c5 : mrightP x.inn x.inn.length dim = true
  · simp [gl, c1, c2, c3, c3', c4, c4', c5, hA, hB]
  · simp [gl, c1, c2, c3, c3', c4, c4', c5, hA, hB]
theorem mrightP_ok {m : List (List Int)} {r c : Int} (h : mrightP m r c = true) : (m.length : Int) = r ∧ (∀ l ∈ m, (l.length : Int) = c) ∧ ∀ l ∈ m, heldRow l = true := by
  simp only [mrightP, Bool.and_eq_true, decide_eq_true_eq, List.all_eq_true] at h
  exact ⟨h.1, fun l hl => (h.2 l hl).1, fun l hl => (h.2 l hl).2⟩
theorem matOk_of {m : List (List Int)} {n : Nat} (h : ∀ l ∈ m, l.length = n) : matOk m n = true := by
  unfold matOk
  rw [List.all_eq_true]
  intro l hl
  simpa using h l hl
def runP (x : Exp) (v : List Int) : List Int := scoresP x.out (reluR (scoresP x.inn v))
theorem run_ret (x : Exp) (v : List Int) (h1 : Few x.inn) (h2 : Few x.out) : RetT cfg 34 [exV x, .t (il v)] (.tu [.t (il (if exRight x v.length then runP x v else [])), bv (exRight x v.length)]) := by
  have hr := fun s k => callEv_tr (C := cfg) (eright_ret x v.length h1 h2) rfl rfl rfl s k
  have hA := fun s k => callEv_tr (C := cfg) (apply_ret x.inn v h1.1 h1.2) rfl rfl rfl s k
  rw [retT_r, runL_pf (fn := f34) rfl rfl]
  by_cases hx : exRight x v.length = true
  · have hx2 := hx
    simp only [exRight, Bool.and_eq_true, decide_eq_true_eq] at hx2
    obtain ⟨⟨⟨_, c4⟩, c5⟩, c6⟩ := hx2
    have ok1 : matOk x.inn v.length = true := matOk_of fun l hl => by have := (mrightP_ok c5).2.1 l hl; omega
    have hsl : (reluR (scoresP x.inn v)).length = x.inn.length := by simp [reluR, scoresP]
    have ok2 : matOk x.out (reluR (scoresP x.inn v)).length = true := matOk_of fun l hl => by have := (mrightP_ok c6).2.1 l hl; omega
    have hR := fun hp => callQ_tr (C := cfg) (relu_ret (scoresP x.inn v) (by simp [scoresP]; omega)) rfl hp
    have hB := fun hp => callQ_tr (C := cfg) (apply_ret x.out (reluR (scoresP x.inn v)) h2.1 h2.2) rfl hp
    rw [ok1] at hA
    rw [ok2] at hB
    rw [hx] at hr ⊢
    rw [if_pos rfl]
    unfold runP
    generalize reluR (scoresP x.inn v) = u at *
    simp only [exV, gl, il, iv, bv, if_true] at hr hA hR hB
    simp [exV, gl, il, hr, hA, hR, hB, resOf, resOfs, resOf1]
  · have hx' : exRight x v.length = false := by simpa using hx
    rw [hx'] at hr ⊢
    simp only [exV, gl, il, iv, bv] at hr
    simp [exV, gl, il, hr, resOf, resOfs, resOf1, treeOf]
end Go.Proofs.YtccnadleegcobaaGreat.Pv
end

section
/- What chunk.Export tells. -/
namespace Go.Proofs.YtccnadleegcobaaGreat.Pv
open Go Go.Pev

def rowB (l : List Int) : List UInt8 := l.flatMap fourZ
def matB (m : List (List Int)) : List UInt8 := m.flatMap rowB
abbrev KB : Key := ⟨6, 2, 0⟩
theorem ex_l0 (E6 E29 E30 E31 E35 E36 E37 : V) (l : List Int) (hl : l.length ≤ 1000) : ∀ (k j c o ck : Nat) (bs : List UInt8), j + k = l.length → bs.length + 4 * k ≤ 100000000 → ∃ c' o' ck' tl, evL cfg (.loop f7l0) ⟨[(6, .pt KB 2 0 0), (29, E29), (30, E30), (31, E31), (35, E35), (36, E36), (37, E37), (41, .t (il l)), (42, iv l.length), (43, iv j)], bldH KB c o bs [], ck⟩ =
    some (.exit 4, ⟨[(6, .pt KB 2 0 0), (29, E29), (30, E30), (31, E31), (35, E35), (36, E36), (37, E37)] ++ tl, bldH KB c' o' (bs ++ rowB (l.drop j)) [], ck'⟩) := by
  intro k
  induction k with
  | zero =>
    intro j c o ck bs h hb
    obtain rfl : j = l.length := by omega
    refine ⟨c, o, ck + 1, [(41, .t (il l)), (42, iv l.length), (43, iv l.length), (44, bv false)], ?_⟩
    have hd : l.drop l.length = [] := List.drop_eq_nil_of_le (Nat.le_refl _)
    rw [hd, show rowB [] = [] from rfl, List.append_nil, evL_loop]
    simp [f7l0e, il]
  | succ k ih =>
    intro j c o ck bs h hb
    have hlt : j < l.length := by omega
    have hltI : (j : Int) < l.length := by omega
    have e4 : IntKind.i64.wrap ((j : Int) + 1) = (j : Int) + 1 := wrap_id (by omega) (by omega)
    have hf := fun st k => callEv_tr (C := cfg) (cfour_ret l[j]) rfl rfl rfl st k
    have hw := fun e ck k' => wstr_call KB c o bs (fourZ l[j]) (by rw [fourZ_len]; omega) (by decide) [] e ck k'
    obtain ⟨c', o', ck', tl, hc⟩ := ih (j + 1) (ck + 8) 6 (ck + 13) (bs ++ fourZ l[j]) (by omega) (by rw [List.length_append, fourZ_len]; omega)
    have hd : rowB (l.drop j) = fourZ l[j] ++ rowB (l.drop (j + 1)) := by rw [List.drop_eq_getElem_cons hlt]; rfl
    refine ⟨c', o', ck', tl, ?_⟩
    rw [hd, ← List.append_assoc, ← hc]
    rw [evL_loop_n (s1 := ⟨[(6, .pt KB 2 0 0), (29, E29), (30, E30), (31, E31), (35, E35), (36, E36), (37, E37), (41, .t (il l)), (42, iv l.length), (43, iv ((j + 1 : Nat) : Int))], bldH KB (ck + 8) 6 (bs ++ fourZ l[j]) [], ck + 13⟩)]
    simp only [iv] at hf hw
    generalize fourZ l[j] = Z at *
    simp [f7l0e, il, hltI, hlt, e4, hf, hw]
theorem ex_l1 (E6 E29 E30 E31 : V) (m : List (List Int)) (hm : m.length ≤ 1000) (hr : ∀ r ∈ m, r.length ≤ 1000) : ∀ (k j c o ck : Nat) (bs : List UInt8), j + k = m.length → bs.length + 4000 * k ≤ 90000000 → ∃ c' o' ck' tl, evL cfg (.loop f7l1) ⟨[(6, .pt KB 2 0 0), (29, E29), (30, E30), (31, E31), (35, .t (gl m)), (36, iv m.length), (37, iv j)], bldH KB c o bs [], ck⟩ =
    some (.exit 2, ⟨[(6, .pt KB 2 0 0), (29, E29), (30, E30), (31, E31)] ++ tl, bldH KB c' o' (bs ++ matB (m.drop j)) [], ck'⟩) := by
  intro k
  induction k with
  | zero =>
    intro j c o ck bs h hb
    obtain rfl : j = m.length := by omega
    refine ⟨c, o, ck + 1, [(35, .t (gl m)), (36, iv m.length), (37, iv m.length), (38, bv false)], ?_⟩
    have hd : m.drop m.length = [] := List.drop_eq_nil_of_le (Nat.le_refl _)
    rw [hd, show matB [] = [] from rfl, List.append_nil, evL_loop]
    simp [f7l1e, gl]
  | succ k ih =>
    intro j c o ck bs h hb
    have hlt : j < m.length := by omega
    have hltI : (j : Int) < m.length := by omega
    have hrl := hr _ (List.getElem_mem hlt)
    have e4 : IntKind.i64.wrap ((j : Int) + 1) = (j : Int) + 1 := wrap_id (by omega) (by omega)
    obtain ⟨c1, o1, ck1, tl1, h1⟩ := ex_l0 (.pt KB 2 0 0) E29 E30 E31 (.t (gl m)) (iv m.length) (iv j) m[j] hrl m[j].length 0 c o (ck + 3) bs (by omega) (by omega)
    rw [List.drop_zero] at h1
    have hrb : (rowB m[j]).length = 4 * m[j].length := by
      generalize m[j] = l
      induction l with
      | nil => rfl
      | cons x l ih => rw [show rowB (x :: l) = fourZ x ++ rowB l from rfl, List.length_append, ih, fourZ_len, List.length_cons]; omega
    obtain ⟨c', o', ck', tl, hc⟩ := ih (j + 1) c1 o1 (ck1 + 1) (bs ++ rowB m[j]) (by omega) (by rw [List.length_append, hrb]; omega)
    have hd : matB (m.drop j) = rowB m[j] ++ matB (m.drop (j + 1)) := by rw [List.drop_eq_getElem_cons hlt]; rfl
    refine ⟨c', o', ck', tl, ?_⟩
    rw [hd, ← List.append_assoc, ← hc]
    rw [evL_loop_n (s1 := ⟨[(6, .pt KB 2 0 0), (29, E29), (30, E30), (31, E31), (35, .t (gl m)), (36, iv m.length), (37, iv ((j + 1 : Nat) : Int))], bldH KB c1 o1 (bs ++ rowB m[j]) [], ck1 + 1⟩)]
    simp only [iv, il, gl, Int.natCast_zero, List.cons_append, List.nil_append] at h1
    generalize rowB m[j] = Z at *
    simp [f7l1e, gl, hltI, hlt, e4, h1]

theorem rowB_len : ∀ l : List Int, (rowB l).length = 4 * l.length
  | [] => rfl
  | x :: l => by rw [show rowB (x :: l) = fourZ x ++ rowB l from rfl, List.length_append, rowB_len l, fourZ_len, List.length_cons]; omega
theorem matB_len (w : Nat) : ∀ m : List (List Int), (∀ l ∈ m, l.length = w) → (matB m).length = 4 * (m.length * w)
  | [], _ => by simp [matB]
  | l :: m, h => by
    rw [show matB (l :: m) = rowB l ++ matB m from rfl, List.length_append, rowB_len, matB_len w m (fun x hx => h x (List.mem_cons_of_mem _ hx)), h l List.mem_cons_self, List.length_cons, Nat.add_mul]
    omega
/-- An expert's bytes. -/
def headB (x : Exp) (dim : Int) : List UInt8 := fourZ x.inn.length ++ fourZ dim
def bodyB (x : Exp) (dim : Int) : List UInt8 := headB x dim ++ matB x.inn ++ matB x.out
def expB (x : Exp) (dim : Int) : List UInt8 := bodyB x dim ++ fourZ (crcI (bodyB x dim))
theorem bodyB_ne (x : Exp) (dim : Int) : bodyB x dim ≠ [] := by
  intro h
  have := congrArg List.length h
  simp [bodyB, headB, fourZ_len] at this
set_option maxHeartbeats 1000000 in
theorem export_ret (x : Exp) (dim : Int) (hx : exRight x dim = true) (hin : x.inn.length ≤ 100) (hout : x.out.length ≤ 100) (hi2 : ∀ r ∈ x.inn, r.length ≤ 1000) (ho2 : ∀ r ∈ x.out, r.length ≤ 1000) (hbl : (bodyB x dim).length ≤ 1000000) : RetT cfg 7 [exV x, iv dim] (.tu [.t (.s (expB x dim)), iv 0]) := by
  have hr := fun st k => callEv_tr (C := cfg) (eright_ret x dim ⟨by omega, fun l hl => by have := hi2 l hl; omega⟩ ⟨by omega, fun l hl => by have := ho2 l hl; omega⟩) rfl rfl rfl st k
  rw [hx] at hr
  have h4a := fun st k => callEv_tr (C := cfg) (cfour_ret x.inn.length) rfl rfl rfl st k
  have h4b := fun st k => callEv_tr (C := cfg) (cfour_ret dim) rfl rfl rfl st k
  have hsum := fun st k => callEv_tr (C := cfg) (crc_ret (bodyB x dim) (by omega)) rfl rfl rfl st k
  have h4c := fun st k => callEv_tr (C := cfg) (cfour_ret (crcI (bodyB x dim))) rfl rfl rfl st k
  have hw := fun r e ck k' => wstr_new_call KB (headB x dim) (by simp [headB, fourZ_len]) (by decide) r e ck k'
  have hs1 := fun c o e ck k' => bstr_call KB c o (bodyB x dim) (bodyB_ne x dim) (by decide) [] e ck k'
  have hs2 := fun e ck k' => bstr_again KB (bodyB x dim) [] e ck k'
  have hM : (2 : Int) = (([[gl x.inn], [gl x.out]] : List (List T)).length : Int) := rfl
  have hhl : (headB x dim).length = 8 := rfl
  obtain ⟨c1, o1, k1, t1, h1⟩ := ex_l1 (.pt KB 2 0 0) (.t (.l [[gl x.inn], [gl x.out]])) (iv 2) (iv 0) x.inn (by omega) hi2 x.inn.length 0 9 6 17 (headB x dim) (by omega) (by omega)
  obtain ⟨c2, o2, k2, t2, h2⟩ := ex_l1 (.pt KB 2 0 0) (.t (.l [[gl x.inn], [gl x.out]])) (iv 2) (iv 1) x.out (by omega) ho2 x.out.length 0 c1 o1 (k1 + 4) (headB x dim ++ matB x.inn) (by omega) (by
    have : (bodyB x dim).length = (headB x dim ++ matB x.inn).length + (matB x.out).length := by simp [bodyB]; omega
    omega)
  rw [List.drop_zero] at h1 h2
  have hbody : headB x dim ++ matB x.inn ++ matB x.out = bodyB x dim := rfl
  rw [hbody] at h2
  generalize headB x dim ++ matB x.inn = B1 at h1 h2
  have hadd : (fourZ x.inn.length ++ fourZ dim) = headB x dim := rfl
  have hl1 : ¬ (9223372036854775807 : Int) < ((bodyB x dim).length : Int) + 4 := by omega
  have hexp : expB x dim = bodyB x dim ++ fourZ (crcI (bodyB x dim)) := rfl
  rw [hexp]
  have hz1 := fourZ_len (x.inn.length : Int)
  have hz2 := fourZ_len dim
  have hz3 := fourZ_len (crcI (bodyB x dim))
  simp only [iv, gl, Int.natCast_zero, List.cons_append, List.nil_append] at h1 h2
  have hL : evL cfg (.loop f7l2) ⟨[(6, .pt KB 2 0 0), (29, .t (.l [[gl x.inn], [gl x.out]])), (30, iv 2), (31, iv 0)], bldH KB 9 6 (headB x dim) [], 14⟩ = some (.exit 0, ⟨[(6, .pt KB 2 0 0), (29, .t (.l [[gl x.inn], [gl x.out]])), (30, iv 2), (31, iv 2), (32, bv false)], bldH KB c2 o2 (bodyB x dim) [], k2 + 2⟩) := by
    rw [evL_loop_n (s1 := ⟨[(6, .pt KB 2 0 0), (29, .t (.l [[gl x.inn], [gl x.out]])), (30, iv 2), (31, iv 1)], bldH KB c1 o1 B1 [], k1 + 1⟩), evL_loop_n (s1 := ⟨[(6, .pt KB 2 0 0), (29, .t (.l [[gl x.inn], [gl x.out]])), (30, iv 2), (31, iv 2)], bldH KB c2 o2 (bodyB x dim) [], k2 + 1⟩), evL_loop_x (s1 := ⟨[(6, .pt KB 2 0 0), (29, .t (.l [[gl x.inn], [gl x.out]])), (30, iv 2), (31, iv 2), (32, bv false)], bldH KB c2 o2 (bodyB x dim) [], k2 + 2⟩) (e := .exit 0)]
    · simp [f7l2e]
    · simp
    · simp [f7l2e, gl, h2, wrap_id]
    · simp [f7l2e, gl, h1, wrap_id]
  rw [retT_r, runL_pf (fn := f7) rfl rfl]
  simp only [iv, bv, gl, exV] at hr h4a h4b h4c hsum hw hs1 hs2 hL
  generalize bodyB x dim = B at *
  simp only [KB, BT, bldH] at hw hs1 hs2 hL
  simp [exV, gl, hr, hw, hs1, hs2, hL, i64max, hsum, h4c, hz3, hl1, resOf, resOfs, resOf1, h4a, h4b, hz1, hz2, hadd, rowsOf, treesC, treesOf, treeOf, keysOfs, keysOf1, freezeAll]
end Go.Proofs.YtccnadleegcobaaGreat.Pv
end

section
/- What chunk.Import tells of what was exported. -/
namespace Go.Proofs.YtccnadleegcobaaGreat.Pv
open Go Go.Pev

def I32 (n : Int) : Prop := -2147483648 ≤ n ∧ n ≤ 2147483647
theorem num_four (n : Int) (h : I32 n) : ∃ a b c d, fourZ n = [a, b, c, d] ∧ numZ a b c d = n := by
  obtain ⟨a, b, c, d, h1, h2⟩ := four_fourD (four32_lt n)
  refine ⟨a, b, c, d, h1, ?_⟩
  have e := four32_eq n
  unfold numZ
  rw [h2]
  obtain ⟨h3, h4⟩ := h
  split <;> omega
theorem numAt_0 (n : Int) (h : I32 n) (r : List UInt8) : numAt (fourZ n ++ r) 0 = n := by
  obtain ⟨a, b, c, d, h1, h2⟩ := num_four n h
  rw [h1]; exact h2
theorem getD_app (a b : List UInt8) (j : Nat) : (a ++ b).getD (a.length + j) 0 = b.getD j 0 := by
  rw [List.getD_eq_getElem?_getD, List.getElem?_append_right (by omega), List.getD_eq_getElem?_getD, Nat.add_sub_cancel_left]
theorem numAt_app (a b : List UInt8) (i j : Nat) (h : a.length = 4 * i) : numAt (a ++ b) (i + j) = numAt b j := by
  unfold numAt
  have e : ∀ q, 4 * (i + j) + q = a.length + (4 * j + q) := fun q => by omega
  have e0 : 4 * (i + j) = a.length + 4 * j := by omega
  rw [e0]
  rw [show a.length + 4 * j + 1 = a.length + (4 * j + 1) by omega, show a.length + 4 * j + 2 = a.length + (4 * j + 2) by omega, show a.length + 4 * j + 3 = a.length + (4 * j + 3) by omega]
  simp only [getD_app]
theorem numAt_row : ∀ (l : List Int) (r : List UInt8) (j : Nat) (hj : j < l.length), (∀ n ∈ l, I32 n) → numAt (rowB l ++ r) j = l[j]
  | x :: l, r, 0, hj, h => by
    show numAt ((fourZ x ++ rowB l) ++ r) 0 = x
    rw [List.append_assoc]
    exact numAt_0 x (h x List.mem_cons_self) _
  | x :: l, r, j + 1, hj, h => by
    have hj' : j < l.length := by simpa using hj
    show numAt ((fourZ x ++ rowB l) ++ r) (j + 1) = l[j]
    rw [List.append_assoc, Nat.add_comm, numAt_app _ _ 1 j (fourZ_len x)]
    exact numAt_row l r j (by simpa using hj) (fun n hn => h n (List.mem_cons_of_mem _ hn))
theorem numAt_mat (w : Nat) : ∀ (m : List (List Int)) (r : List UInt8) (i j : Nat) (hi : i < m.length) (hj : j < w) (hw : ∀ l ∈ m, l.length = w), (∀ l ∈ m, ∀ n ∈ l, I32 n) → numAt (matB m ++ r) (i * w + j) = (m[i]).getD j 0
  | l :: m, r, 0, j, hi, hj, hw, h => by
    show numAt ((rowB l ++ matB m) ++ r) (0 * w + j) = l.getD j 0
    have hl := hw l List.mem_cons_self
    rw [List.append_assoc, Nat.zero_mul, Nat.zero_add, numAt_row l _ j (by omega) (h l List.mem_cons_self)]
    simp [List.getD_eq_getElem?_getD, hl, hj]
  | l :: m, r, i + 1, j, hi, hj, hw, h => by
    have hi' : i < m.length := by simpa using hi
    show numAt ((rowB l ++ matB m) ++ r) ((i + 1) * w + j) = (m[i]).getD j 0
    have hl := hw l List.mem_cons_self
    rw [List.append_assoc, show (i + 1) * w + j = w + (i * w + j) by rw [Nat.add_mul]; omega, numAt_app _ _ w _ (by rw [rowB_len, hl])]
    exact numAt_mat w m r i j (by simpa using hi) hj (fun x hx => hw x (List.mem_cons_of_mem _ hx)) (fun x hx => h x (List.mem_cons_of_mem _ hx))
theorem rows_mat (a : List UInt8) (i w : Nat) (m : List (List Int)) (r : List UInt8) (ha : a.length = 4 * i) (hw : ∀ l ∈ m, l.length = w) (h : ∀ l ∈ m, ∀ n ∈ l, I32 n) : rowsZ (a ++ (matB m ++ r)) i m.length w = m := by
  unfold rowsZ
  apply List.ext_getElem
  · simp
  · intro q h1 h2
    rw [List.getElem_map, List.getElem_range]
    have hwq := hw _ (List.getElem_mem h2)
    unfold rowZ
    apply List.ext_getElem
    · simp [hwq]
    · intro j h3 h4
      have h3' : j < w := by simpa using h3
      rw [List.getElem_map, List.getElem_range, Nat.add_assoc, numAt_app _ _ i _ ha, numAt_mat w m r q j h2 h3' hw h]
      simp [List.getD_eq_getElem?_getD, h4]
structure XOk (x : Exp) (d : Nat) : Prop where
  r : exRight x d = true
  h1 : 1 ≤ x.inn.length
  h8 : x.inn.length ≤ 8
  d1 : 1 ≤ d
  d8 : d ≤ 8
  inw : ∀ l ∈ x.inn, l.length = d
  outl : x.out.length = d
  outw : ∀ l ∈ x.out, l.length = x.inn.length
  inI : ∀ l ∈ x.inn, ∀ n ∈ l, I32 n
  outI : ∀ l ∈ x.out, ∀ n ∈ l, I32 n
theorem held_I32 {l : List Int} (h : heldRow l = true) : ∀ n ∈ l, I32 n := by
  intro n hn
  have := List.all_eq_true.1 h n hn
  have h1 := of_decide_eq_true this
  unfold hold at h1
  unfold I32
  omega
theorem mright_is {m : List (List Int)} {r c : Int} (h : mrightP m r c = true) : (m.length : Int) = r ∧ (∀ l ∈ m, (l.length : Int) = c) ∧ ∀ l ∈ m, ∀ n ∈ l, I32 n := by
  unfold mrightP at h
  rw [Bool.and_eq_true] at h
  obtain ⟨h1, h2⟩ := h
  have h3 := fun l hl => List.all_eq_true.1 h2 l hl
  refine ⟨of_decide_eq_true h1, fun l hl => ?_, fun l hl => ?_⟩
  · have := h3 l hl; rw [Bool.and_eq_true] at this; exact of_decide_eq_true this.1
  · have := h3 l hl; rw [Bool.and_eq_true] at this; exact held_I32 this.2
theorem xOk {x : Exp} {dim : Int} (h : exRight x dim = true) : ∃ d : Nat, dim = d ∧ XOk x d := by
  have h0 := h
  unfold exRight at h
  simp only [Bool.and_eq_true, decide_eq_true_eq] at h
  obtain ⟨⟨⟨⟨⟨a1, a2⟩, a3⟩, a4⟩, a5⟩, a6⟩ := h
  obtain ⟨b1, b2, b3⟩ := mright_is a5
  obtain ⟨c1, c2, c3⟩ := mright_is a6
  refine ⟨dim.toNat, by omega, ⟨by rw [show ((dim.toNat : Nat) : Int) = dim by omega]; exact h0, by omega, by omega, by omega, by omega, fun l hl => by have := b2 l hl; omega, by omega, fun l hl => by have := c2 l hl; omega, b3, c3⟩⟩

theorem bodyB_len {x : Exp} {d : Nat} (h : XOk x d) : (bodyB x d).length = 8 + 8 * (x.inn.length * d) := by
  unfold bodyB headB
  rw [List.length_append, List.length_append, matB_len d _ h.inw, matB_len x.inn.length _ h.outw, h.outl, Nat.mul_comm d]
  simp [fourZ_len]; omega
set_option maxHeartbeats 2000000 in
theorem import_ret (x : Exp) (d : Nat) (h : XOk x d) : RetT cfg 12 [.t (.s (expB x d))] (.tu [exV x, iv d, iv 0]) := by
  obtain ⟨hh, hhe⟩ : ∃ hh, hh = x.inn.length := ⟨_, rfl⟩
  obtain ⟨q, hq⟩ : ∃ q, q = hh * d := ⟨_, rfl⟩
  have hq64 : q ≤ 64 := by
    have h88 : hh ≤ 8 := by rw [hhe]; exact h.h8
    have : hh * d ≤ 8 * 8 := Nat.mul_le_mul h88 h.d8
    omega
  have hbl : (bodyB x d).length = 8 + 8 * q := by rw [hq, hhe]; exact bodyB_len h
  have hel : (expB x d).length = 12 + 8 * q := by unfold expB; rw [List.length_append, hbl, fourZ_len]; omega
  have hdrop : (expB x d).drop (8 + 8 * q) = fourZ (crcI (bodyB x d)) := by unfold expB; rw [← hbl, List.drop_left]
  have htake : (expB x d).take (8 + 8 * q) = bodyB x d := by unfold expB; rw [← hbl, List.take_left]
  have hs : expB x d = (fourZ hh ++ fourZ d) ++ (matB x.inn ++ (matB x.out ++ fourZ (crcI (bodyB x d)))) := by
    unfold expB bodyB headB; rw [← hhe]; simp [List.append_assoc]
  have h1 := h.h1; have h8 := h.h8; have d1 := h.d1; have d8 := h.d8
  have n0 : numAt (expB x d) 0 = hh := by
    rw [hs, List.append_assoc]; exact numAt_0 hh ⟨by omega, by omega⟩ _
  have n1 : numAt (expB x d) 1 = d := by
    rw [hs, List.append_assoc]
    have := numAt_app (fourZ hh) (fourZ d ++ (matB x.inn ++ (matB x.out ++ fourZ (crcI (bodyB x d))))) 1 0 (fourZ_len _)
    rw [this]; exact numAt_0 d ⟨by omega, by omega⟩ _
  have r1 : rowsZ (expB x d) 2 hh d = x.inn := by
    rw [hs, hhe]; exact rows_mat _ 2 d x.inn _ (by simp [fourZ_len]) h.inw h.inI
  have r2 : rowsZ (expB x d) (2 + q) d hh = x.out := by
    have e : expB x d = (fourZ hh ++ fourZ d ++ matB x.inn) ++ (matB x.out ++ fourZ (crcI (bodyB x d))) := by rw [hs]; simp [List.append_assoc]
    have := rows_mat (fourZ hh ++ fourZ d ++ matB x.inn) (2 + q) hh x.out (fourZ (crcI (bodyB x d))) (by rw [List.length_append, matB_len d _ h.inw, ← hhe, ← hq]; simp [fourZ_len]; omega) (by rw [hhe]; exact h.outw) h.outI
    rw [h.outl] at this
    rw [e]; exact this
  have hN0 := fun st k => callEv_tr (C := cfg) (cnum_ret (expB x d) 0 (by omega) (by omega)) rfl rfl rfl st k
  have hN1 := fun st k => callEv_tr (C := cfg) (cnum_ret (expB x d) 1 (by omega) (by omega)) rfl rfl rfl st k
  have hR1 := fun st k => callEv_tr (C := cfg) (rows_ret (expB x d) 2 hh d (by omega) (by omega) (by omega) (by omega) (fun r c hr hc => by
    have : r * d + c < q := by
      rw [hq]
      calc r * d + c < r * d + d := by omega
        _ = (r + 1) * d := by rw [Nat.add_mul]; omega
        _ ≤ hh * d := Nat.mul_le_mul_right _ (by omega)
    omega) (by omega)) rfl rfl rfl st k
  have hR2 := fun st k => callEv_tr (C := cfg) (rows_ret (expB x d) (2 + q) d hh (by omega) (by omega) (by omega) (by omega) (fun r c hr hc => by
    have : r * hh + c < q := by
      rw [hq, Nat.mul_comm hh]
      calc r * hh + c < r * hh + hh := by omega
        _ = (r + 1) * hh := by rw [Nat.add_mul]; omega
        _ ≤ d * hh := Nat.mul_le_mul_right _ (by omega)
    omega) (by rw [Nat.mul_comm]; omega)) rfl rfl rfl st k
  have hsum := fun hp => callQ_tr (C := cfg) (crc_ret (bodyB x d) (by omega)) rfl hp
  have h4 := fun hp => callQ_tr (C := cfg) (cfour_ret (crcI (bodyB x d))) rfl hp
  have hfew : Few x.inn ∧ Few x.out := ⟨⟨by omega, fun l hl => by have := h.inw l hl; omega⟩, ⟨by have := h.outl; omega, fun l hl => by have := h.outw l hl; omega⟩⟩
  have hXR := fun st k => callEv_tr (C := cfg) (eright_ret x d hfew.1 hfew.2) rfl rfl rfl st k
  rw [h.r] at hXR
  rw [n0] at hN0
  rw [n1] at hN1
  rw [r1] at hR1
  rw [r2] at hR2
  rw [retT_r, runL_pf (fn := f12) rfl rfl]
  generalize expB x d = S at *
  generalize bodyB x d = B at *
  have e0 : IntKind.i64.wrap ((S.length : Int) - 4) = ((8 + 8 * q : Nat) : Int) := by rw [wrap_id (by omega) (by omega)]; omega
  have e1 : ¬ (S.length : Int) < 12 := by omega
  have e2 : Int.tmod (S.length : Int) 4 = 0 := by rw [Int.tmod_eq_emod_of_nonneg (by omega)]; omega
  have e3 : IntKind.i64.wrap (2 * (hh : Int)) = ((2 * hh : Nat) : Int) := by rw [wrap_id (by omega) (by omega)]; omega
  have e4 : IntKind.i64.wrap (((2 * hh : Nat) : Int) * (d : Int)) = ((2 * q : Nat) : Int) := by
    have : ((2 * hh : Nat) : Int) * (d : Int) = ((2 * q : Nat) : Int) := by rw [hq, ← Int.natCast_mul, Nat.mul_assoc]
    rw [this, wrap_id (by omega) (by omega)]
  have e5 : IntKind.i64.wrap (3 + ((2 * q : Nat) : Int)) = ((3 + 2 * q : Nat) : Int) := by rw [wrap_id (by omega) (by omega)]; omega
  have e6 : IntKind.i64.wrap (4 * ((3 + 2 * q : Nat) : Int)) = (S.length : Int) := by rw [wrap_id (by omega) (by omega)]; omega
  have e7 : IntKind.i64.wrap ((hh : Int) * (d : Int)) = (q : Int) := by
    have : (hh : Int) * (d : Int) = (q : Int) := by rw [hq, ← Int.natCast_mul]
    rw [this, wrap_id (by omega) (by omega)]
  have e8 : IntKind.i64.wrap (2 + (q : Int)) = ((2 + q : Nat) : Int) := by rw [wrap_id (by omega) (by omega)]; omega
  have b1 : ¬ (hh : Int) < 1 := by omega
  have b2 : ¬ (8 : Int) < hh := by omega
  have b3 : ¬ (d : Int) < 1 := by omega
  have b4 : ¬ (8 : Int) < d := by omega
  have l0 : 8 + 8 * q ≤ S.length := by omega
  have l1 : ((8 + 8 * q : Nat) : Int) ≤ S.length := by omega
  have hd2 : (S.take S.length).drop (8 + 8 * q) = fourZ (crcI B) := by rw [List.take_length]; exact hdrop
  generalize h88 : 8 + 8 * q = Q8 at *
  generalize h2h : 2 * hh = H2 at *
  generalize h2q : 2 * q = Q2 at *
  generalize h32 : 3 + Q2 = Q3 at *
  generalize h2q' : 2 + q = Q4 at *
  have p8 : (0 : Int) ≤ (Q8 : Int) := by omega
  simp only [iv, bv, exV, gl, Int.natCast_zero] at hN0 hN1 hR1 hR2 hsum h4 hXR
  have c2 : ((2 : Nat) : Int) = 2 := rfl
  have c1 : ((1 : Nat) : Int) = 1 := rfl
  rw [c2] at hR1
  rw [c1] at hN1
  simp [e0, e1, e2, e3, e4, e5, e6, e7, e8, b1, b2, b3, b4, l0, l1, hdrop, htake, hd2, hsum, h4, hN0, hN1, hR1, hR2, hXR, exV, gl, buildV, over, resOf, resOfs, resOf1, treesOf, treeOf]
end Go.Proofs.YtccnadleegcobaaGreat.Pv
end

section
/- What top, share and gate tell. -/
namespace Go.Proofs.YtccnadleegcobaaGreat.Pv
open Go Go.Pev

theorem bes_drop {v : List Int} {but : Int} {i : Nat} (hi : i < v.length) (best : Int) : bes v but (v.drop i) i best = bes v but (v.drop (i + 1)) (i + 1) (if (i : Int) ≠ but ∧ (best < 0 ∨ v.getD best.toNat 0 < v[i]) then i else best) := by
  rw [List.drop_eq_getElem_cons hi]; rfl
def besI (v : List Int) (but : Int) (i : Nat) (s : St) : Prop := ∃ (best : Int) (ck : Nat), (best = -1 ∨ 0 ≤ best ∧ best < v.length) ∧ bes v but (v.drop i) i best = bes v but v 0 (-1) ∧ s = ⟨[(0, .t (il v)), (1, iv but), (5, iv best), (8, .t (il v)), (9, iv v.length), (10, iv (i : Int))], [], ck⟩
theorem beside_ret (v : List Int) (but : Int) (hl : v.length ≤ 1000000) : RetT cfg 99 [.t (il v), iv but] (iv (bes v but v 0 (-1))) := by
  have hL : ∀ ck, ∃ c, evL cfg (.loop f99l0) ⟨[(0, .t (il v)), (1, iv but), (5, iv (-1)), (8, .t (il v)), (9, iv v.length), (10, iv 0)], [], ck⟩ = some (.exit 0, ⟨[(0, .t (il v)), (1, iv but), (5, iv (bes v but v 0 (-1))), (8, .t (il v)), (9, iv v.length), (10, iv v.length), (11, bv false)], [], c⟩) := by
    intro ck
    refine loop_q (Q := fun E => ∃ c, E = some (.exit 0, ⟨[(0, .t (il v)), (1, iv but), (5, iv (bes v but v 0 (-1))), (8, .t (il v)), (9, iv v.length), (10, iv v.length), (11, bv false)], [], c⟩)) v.length (besI v but) ?_ ?_ _ ⟨-1, ck, .inl rfl, rfl, rfl⟩
    · rintro i s hi ⟨best, ck, h0, h1, rfl⟩
      have hw : IntKind.i64.wrap ((i : Int) + 1) = (i : Int) + 1 := wrap_id (by omega) (by omega)
      rw [bes_drop hi] at h1
      by_cases e : (i : Int) = but
      · rw [if_neg (fun q => q.1 e)] at h1
        have hb : ((i : Int) != but) = false := by simp [e]
        simp [f99l0e, il, hi, hw, hb]
        exact ⟨_, _, h0, h1, rfl⟩
      · have hb : ((i : Int) != but) = true := by simp [e]
        by_cases hn : best < 0
        · rw [if_pos ⟨e, .inl hn⟩] at h1
          simp [f99l0e, il, hi, hw, hb, hn]
          exact ⟨_, _, .inr ⟨by omega, by omega⟩, h1, rfl⟩
        · have h2 : 0 ≤ best ∧ best < v.length := by rcases h0 with h | h <;> omega
          obtain ⟨b, rfl⟩ : ∃ b : Nat, best = b := ⟨best.toNat, by omega⟩
          have hbl : b < v.length := by omega
          have hg : v.getD b 0 = v[b] := by simp [List.getD_eq_getElem?_getD, hbl]
          simp only [Int.toNat_natCast, hg] at h1
          by_cases hx : v[b] < v[i]
          · rw [if_pos ⟨e, .inr hx⟩] at h1
            simp [f99l0e, il, hi, hw, hb, hn, hbl, hx]
            exact ⟨_, _, .inr ⟨by omega, by omega⟩, h1, rfl⟩
          · rw [if_neg (by rintro ⟨_, h | h⟩; · omega
                           · exact hx h)] at h1
            simp [f99l0e, il, hi, hw, hb, hn, hbl, hx]
            exact ⟨_, _, .inr ⟨by omega, by omega⟩, h1, rfl⟩
    · rintro s ⟨best, ck, h0, h1, rfl⟩
      simp [bes] at h1
      subst h1
      simp [f99l0e]
  obtain ⟨c, hc⟩ := hL 3
  simp [il] at hc
  refine RetT.of ?_
  rw [runL_pf (fn := f99) rfl rfl]
  simp [il, hc]
theorem two_ret (v : List Int) (hl : v.length ≤ 1000000) : RetT cfg 76 [.t (il v)] (.tu [iv (twoP v).1, iv (twoP v).2]) := by
  have hb := fun but s k => callEv_tr (C := cfg) (beside_ret v but hl) rfl rfl rfl s k
  simp only [il, iv] at hb
  have hB : RetT cfg 98 [.t (il v)] (iv (bes v (-1) v 0 (-1))) := by
    refine RetT.of ?_
    rw [runL_pf (fn := f98) rfl rfl]
    simp [il, hb]
  have h2 := fun s k => callEv_tr (C := cfg) hB rfl rfl rfl s k
  simp only [il, iv] at h2
  rw [retT_r, runL_pf (fn := f76) rfl rfl]
  simp [il, hb, h2, twoP, resOf, resOfs, resOf1]

/-! ### shares -/
theorem partP_mm (n : Int) : (if hold n < 0 then 0 else hold n) + 1 = partP n := by unfold partP; split <;> omega
theorem share_mul (a b : Int) : 0 ≤ shareP a b ∧ shareP a b ≤ 65536 := by
  have h1 := partP_in a
  have h2 := partP_in b
  unfold shareP
  rw [Int.tdiv_eq_ediv_of_nonneg (by omega)]
  refine ⟨Int.ediv_nonneg (by omega) (by omega), ?_⟩
  have : partP a * 65536 / (partP a + partP b) ≤ (partP a + partP b) * 65536 / (partP a + partP b) := Int.ediv_le_ediv (by omega) (by omega)
  rw [Int.mul_ediv_cancel_left _ (by omega)] at this
  exact this
theorem shares_ret (a b : Int) : RetT cfg 77 [iv a, iv b] (.tu [iv (shareP a b), iv (65536 - shareP a b)]) := by
  have h1 := partP_in a
  have h2 := partP_in b
  have h3 := share_mul a b
  have w1 : IntKind.i64.wrap ((if hold a < 0 then 0 else hold a) + 1) = partP a := by rw [partP_mm]; exact wrap_id (by omega) (by omega)
  have w2 : IntKind.i64.wrap ((if hold b < 0 then 0 else hold b) + 1) = partP b := by rw [partP_mm]; exact wrap_id (by omega) (by omega)
  have w3 : IntKind.i64.wrap (partP a * 65536) = partP a * 65536 := wrap_id (by omega) (by omega)
  have w4 : IntKind.i64.wrap (partP a + partP b) = partP a + partP b := wrap_id (by omega) (by omega)
  have w5 : IntKind.i64.wrap (shareP a b) = shareP a b := wrap_id (by omega) (by omega)
  have w6 : IntKind.i64.wrap (65536 - shareP a b) = 65536 - shareP a b := wrap_id (by omega) (by omega)
  have hne : ¬ partP a + partP b = 0 := by omega
  have hs : (partP a * 65536).tdiv (partP a + partP b) = shareP a b := rfl
  rw [retT_r, runL_pf (fn := f77) rfl rfl]
  simp [hold_call, minmax, w1, w2, w3, w4, hne, hs, w5, w6, resOf, resOfs, resOf1]

/-! ### the gate -/
structure Cho where
  first : Int
  second : Int
  w1 : Int
  w2 : Int
  deriving DecidableEq
def choP (rows : List (List Int)) (v : List Int) : Cho :=
  if matOk rows v.length = false ∨ rows = [] then ⟨0, 0, 0, 0⟩
  else if 0 ≤ (twoP (scoresP rows v)).2 then ⟨(twoP (scoresP rows v)).1, (twoP (scoresP rows v)).2, shareP ((scoresP rows v).getD (twoP (scoresP rows v)).1.toNat 0) ((scoresP rows v).getD (twoP (scoresP rows v)).2.toNat 0), 65536 - shareP ((scoresP rows v).getD (twoP (scoresP rows v)).1.toNat 0) ((scoresP rows v).getD (twoP (scoresP rows v)).2.toNat 0)⟩
  else ⟨(twoP (scoresP rows v)).1, (twoP (scoresP rows v)).2, 65536, 0⟩
def choOk (rows : List (List Int)) (v : List Int) : Bool := matOk rows v.length && !rows.isEmpty
def choC (c : Cho) : List V := [iv c.first, iv c.second, iv c.w1, iv c.w2]
theorem bes_in (v : List Int) (but : Int) : bes v but v 0 (-1) = -1 ∨ 0 ≤ bes v but v 0 (-1) ∧ bes v but v 0 (-1) < v.length := by
  have h := bes_top v but v 0 (-1) rfl (by omega) (.inl ⟨rfl, fun i hi => by omega⟩)
  rcases h with ⟨h, _⟩ | ⟨h1, h2, _⟩
  · exact .inl h
  · exact .inr ⟨h1, h2⟩
theorem bes_some {v : List Int} (hv : v ≠ []) : 0 ≤ bes v (-1) v 0 (-1) := by
  have h := bes_top v (-1) v 0 (-1) rfl (by omega) (.inl ⟨rfl, fun i hi => by omega⟩)
  have hl := List.length_pos_iff.2 hv
  rcases h with ⟨_, h⟩ | ⟨h1, h2, _⟩
  · have := h 0 hl; omega
  · exact h1
theorem two_in {v : List Int} (hv : v ≠ []) : (0 ≤ (twoP v).1 ∧ (twoP v).1 < v.length) ∧ ((twoP v).2 = -1 ∨ 0 ≤ (twoP v).2 ∧ (twoP v).2 < v.length) := by
  have h1 := bes_some hv
  have h2 := bes_in v (-1)
  refine ⟨⟨h1, ?_⟩, bes_in v _⟩
  show bes v (-1) v 0 (-1) < v.length
  omega
theorem choose_ret (rows : List (List Int)) (v : List Int) (hr : Few rows) : RetT cfg 56 [.t (gl rows), .t (il v)] (.tu [.ag (choC (choP rows v)), bv (choOk rows v)]) := by
  have hA := fun s k => callEv_tr (C := cfg) (apply_ret rows v hr.1 hr.2) rfl rfl rfl s k
  rw [retT_r, runL_pf (fn := f56) rfl rfl]
  by_cases hok : matOk rows v.length = true
  case neg =>
    have hok' : matOk rows v.length = false := by simpa using hok
    rw [hok'] at hA
    have e : choP rows v = ⟨0, 0, 0, 0⟩ := by unfold choP; rw [if_pos (.inl hok')]
    simp only [gl, il, bv] at hA
    simp [gl, il, hA, e, choOk, hok', choC, over, buildV, resOf, resOfs, resOf1, treesOf, treeOf]
  rw [hok] at hA
  by_cases hn : rows = []
  · subst hn
    have e : choP [] v = ⟨0, 0, 0, 0⟩ := by unfold choP; rw [if_pos (.inr rfl)]
    simp only [gl, il, bv] at hA
    simp [gl, il] at hA
    simp [gl, il, hA, e, choOk, hok, choC, over, buildV, resOf, resOfs, resOf1, treesOf, treeOf]
  have hl0 : ¬ rows.length = 0 := fun e => hn (List.length_eq_zero_iff.1 e)
  have hb0 : ((rows.length : Int) == 0) = false := by simp [hn]
  have hie : rows.isEmpty = false := by cases rows with
    | nil => exact absurd rfl hn
    | cons _ _ => rfl
  have hlen : (scoresP rows v).length = rows.length := by simp [scoresP]
  have hsn : scoresP rows v ≠ [] := fun e => hl0 (by rw [← hlen, e]; rfl)
  have hT := fun s k => callEv_tr (C := cfg) (two_ret (scoresP rows v) (by rw [hlen]; exact hr.1)) rfl rfl rfl s k
  have p1 := (two_in hsn).1
  have p3 := (two_in hsn).2
  have e : choP rows v = if 0 ≤ (twoP (scoresP rows v)).2 then ⟨(twoP (scoresP rows v)).1, (twoP (scoresP rows v)).2, shareP ((scoresP rows v).getD (twoP (scoresP rows v)).1.toNat 0) ((scoresP rows v).getD (twoP (scoresP rows v)).2.toNat 0), 65536 - shareP ((scoresP rows v).getD (twoP (scoresP rows v)).1.toNat 0) ((scoresP rows v).getD (twoP (scoresP rows v)).2.toNat 0)⟩ else ⟨(twoP (scoresP rows v)).1, (twoP (scoresP rows v)).2, 65536, 0⟩ := by
    unfold choP; rw [if_neg (by rw [hok]; simp [hn])]
  rw [e]
  clear e
  generalize scoresP rows v = sc at hT hA p1 p3 hlen hsn ⊢
  obtain ⟨a, b, hab⟩ : ∃ a b, twoP sc = (a, b) := ⟨_, _, rfl⟩
  rw [hab] at hT p1 p3 ⊢
  simp only at hT p1 p3 ⊢
  obtain ⟨x, rfl⟩ : ∃ x : Nat, a = x := ⟨a.toNat, by omega⟩
  have hx : x < sc.length := by omega
  have gx : sc.getD x 0 = sc[x] := by simp [List.getD_eq_getElem?_getD, hx]
  by_cases hb : 0 ≤ b
  · obtain ⟨y, rfl⟩ : ∃ y : Nat, b = y := ⟨b.toNat, by omega⟩
    have hy : y < sc.length := by omega
    have gy : sc.getD y 0 = sc[y] := by simp [List.getD_eq_getElem?_getD, hy]
    have hS := fun hp => callQ_tr (C := cfg) (shares_ret sc[x] sc[y]) rfl hp
    rw [if_pos hb]
    simp only [Int.toNat_natCast, gx, gy]
    simp only [gl, il, iv, bv, if_true] at hA hT hS
    simp [gl, il, hA, hT, hS, hb0, hie, hok, hb, hx, hy, choOk, choC, over, buildV, resOf, resOfs, resOf1, treesOf, treeOf]
  · rw [if_neg hb]
    simp only [gl, il, iv, bv, if_true] at hA hT
    simp [gl, il, hA, hT, hb0, hie, hok, hb, hx, choOk, choC, over, buildV, resOf, resOfs, resOf1, treesOf, treeOf]
end Go.Proofs.YtccnadleegcobaaGreat.Pv
end

section
/- Whether layers, models, tokens are right, as the program has it. -/
namespace Go.Proofs.YtccnadleegcobaaGreat.Pv
open Go Go.Pev

structure Lay where
  gate : List (List Int)
  exps : List Exp
  cap : Int
def layT (l : Lay) : List T := [gl l.gate, .l (l.exps.map exT), .i .i64 l.cap]
def layV (l : Lay) : V := .ag [.t (gl l.gate), .t (.l (l.exps.map exT)), iv l.cap]
structure Mod where
  dim : Int
  lays : List Lay
def laysT (m : Mod) : T := .l (m.lays.map layT)
def modV (m : Mod) : V := .ag [iv m.dim, .t (laysT m)]
def FewX (x : Exp) : Prop := Few x.inn ∧ Few x.out
def FewL (l : Lay) : Prop := Few l.gate ∧ l.exps.length ≤ 1000000 ∧ ∀ x ∈ l.exps, FewX x
def FewM (m : Mod) : Prop := m.lays.length ≤ 1000000 ∧ ∀ l ∈ m.lays, FewL l
def layRight (l : Lay) (dim : Int) : Bool := decide (1 ≤ l.exps.length) && decide (l.exps.length ≤ 8) && mrightP l.gate l.exps.length dim && decide (1 ≤ l.cap) && decide (l.cap ≤ 32) && l.exps.all fun x => exRight x dim
def modRight (m : Mod) : Bool := decide (1 ≤ m.dim) && decide (m.dim ≤ 8) && decide (1 ≤ m.lays.length) && decide (m.lays.length ≤ 4) && m.lays.all fun l => layRight l m.dim
def tokRight (m : Mod) (ts : List (List Int)) : Bool := decide (1 ≤ ts.length) && decide (ts.length ≤ 16) && ts.all fun v => decide ((v.length : Int) = m.dim) && heldRow v

theorem layer1_ret (x : Exp) (dim : Int) (h : FewX x) : RetT cfg 73 [exV x, .pr [.i .i64 dim]] (bv (!exRight x dim)) := by
  have h1 := fun s k => callEv_tr (C := cfg) (eright_ret x dim h.1 h.2) rfl rfl rfl s k
  simp only [exV, iv, bv] at h1
  refine RetT.of ?_
  rw [runL_pf (fn := f73) rfl rfl]
  simp [exV, h1]
theorem layer_ret (l : Lay) (dim : Int) (h : FewL l) : RetT cfg 50 [layV l, iv dim] (bv (layRight l dim)) := by
  have hA := fun s k => mright_call l.gate l.exps.length dim h.1.1 h.1.2 s k
  have h1 : RetT cfg 72 [.t (.l (l.exps.map exT)), .fn 73 [.pr [.i .i64 dim]]] (bv (!(l.exps.all fun x => exRight x dim))) := by
    rw [List.not_all_eq_any_not]
    refine ctf_run (ix := 97) rfl rfl rfl rfl (fun _ => rfl) ?_
    refine ixf_run (ag := true) (sz := 2) exT _ exV rfl rfl (by simp [exT]) (by simp [exT, exV]) h.2.1 ?_
    intro x hx s k hs
    exact ⟨s.ck, by rw [callEv_cl (C := cfg) (layer1_ret x dim (h.2.2 x hx)) rfl rfl rfl s k (by simp [puresOf, pureOf, exV, treesOf, treeOf]), hs]; rfl⟩
  have h2 := fun s k => callEv_fn (C := cfg) (caps0 := [.pt ⟨3, 0, 1⟩ 1 0 0]) h1 rfl rfl rfl s k
  simp only [bv] at h2
  refine RetT.of ?_
  rw [runL_pf (fn := f50) rfl rfl]
  unfold layRight layV
  by_cases c1 : 1 ≤ l.exps.length
  case neg =>
    have c1' : ¬ (1 : Int) ≤ l.exps.length := by omega
    simp [gl, c1, c1']
  have c1' : (1 : Int) ≤ l.exps.length := by omega
  by_cases c2 : l.exps.length ≤ 8
  case neg =>
    have c2' : ¬ (l.exps.length : Int) ≤ 8 := by omega
    simp [gl, c1, c1', c2, c2']
  have c2' : (l.exps.length : Int) ≤ 8 := by omega
  by_cases c3 : mrightP l.gate l.exps.length dim = true
  case neg => simp [gl, c1, c1', c2, c2', c3, hA]
  by_cases c4 : 1 ≤ l.cap
  case neg => simp [gl, c1, c1', c2, c2', c3, hA, c4]
  by_cases c5 : l.cap ≤ 32
  case neg => simp [gl, c1, c1', c2, c2', c3, hA, c4, c5]
  generalize (l.exps.all fun x => exRight x dim) = b at *
  simp [gl, c1, c1', c2, c2', c3, hA, c4, c5, h2, capsOf, capOf, treesOf, treeOf]
theorem right1_ret (l : Lay) (m : Mod) (h : FewL l) : RetT cfg 49 [layV l, .pr [.i .i64 m.dim, laysT m]] (bv (!layRight l m.dim)) := by
  have h1 := fun s k => callEv_tr (C := cfg) (layer_ret l m.dim h) rfl rfl rfl s k
  simp only [layV, gl, iv, bv] at h1
  refine RetT.of ?_
  rw [runL_pf (fn := f49) rfl rfl]
  simp [layV, gl, h1]
theorem mod_ret (m : Mod) (h : FewM m) : RetT cfg 31 [modV m] (bv (modRight m)) := by
  have h1 : RetT cfg 48 [.t (laysT m), .fn 49 [.pr [.i .i64 m.dim, laysT m]]] (bv (!(m.lays.all fun l => layRight l m.dim))) := by
    rw [List.not_all_eq_any_not]
    refine ctf_run (ix := 71) rfl rfl rfl rfl (fun _ => rfl) ?_
    refine ixf_run (ag := true) (sz := 3) layT _ layV rfl rfl (by simp [layT]) (by simp [layT, layV]) h.1 ?_
    intro l hl s k hs
    exact ⟨s.ck, by rw [callEv_cl (C := cfg) (right1_ret l m (h.2 l hl)) rfl rfl rfl s k (by simp [puresOf, pureOf, layV, treesOf, treeOf]), hs]; rfl⟩
  have h2 := fun s k => callEv_fn (C := cfg) (caps0 := [.pt ⟨1, 0, 0⟩ 2 0 0]) h1 rfl rfl rfl s k
  simp only [bv, laysT] at h2
  refine RetT.of ?_
  rw [runL_pf (fn := f31) rfl rfl]
  unfold modRight modV laysT
  by_cases c1 : 1 ≤ m.dim
  case neg => simp [c1]
  by_cases c2 : m.dim ≤ 8
  case neg => simp [c1, c2]
  by_cases c3 : 1 ≤ m.lays.length
  case neg =>
    have c3' : ¬ (1 : Int) ≤ m.lays.length := by omega
    simp [c1, c2, c3, c3']
  have c3' : (1 : Int) ≤ m.lays.length := by omega
  by_cases c4 : m.lays.length ≤ 4
  case neg =>
    have c4' : ¬ (m.lays.length : Int) ≤ 4 := by omega
    simp [c1, c2, c3, c3', c4, c4']
  have c4' : (m.lays.length : Int) ≤ 4 := by omega
  generalize (m.lays.all fun l => layRight l m.dim) = b at *
  simp [c1, c2, c3, c3', c4, c4', h2, capsOf, capOf, treesOf, treeOf]
theorem tok11_ret (n : Int) : RetT cfg 54 [iv n] (bv (hold n != n)) := by
  refine RetT.of ?_
  rw [runL_pf (fn := f54) rfl rfl]
  simp [hold_call]
theorem tok1_ret (v : List Int) (d : Int) (x : T) (hl : v.length ≤ 1000000) : RetT cfg 52 [.t (il v), .pr [.i .i64 d, x]] (bv (!(decide ((v.length : Int) = d) && heldRow v))) := by
  have h1 := fun s k => callEv_fn (C := cfg) (caps0 := []) (notheld_ret (g := 54) rfl rfl tok11_ret v hl) rfl rfl rfl s k rfl
  simp only [il, bv] at h1
  refine RetT.of ?_
  rw [runL_pf (fn := f52) rfl rfl]
  by_cases hc : (v.length : Int) = d
  · have hb : ((v.length : Int) != d) = false := by simp [hc]
    simp [il, h1, hb, hc]
  · have hb : ((v.length : Int) != d) = true := by simp [hc]
    simp [il, h1, hb, hc]
theorem tok_ret (m : Mod) (ts : List (List Int)) (hl : Few ts) : RetT cfg 32 [modV m, .t (gl ts)] (bv (tokRight m ts)) := by
  have h1 : RetT cfg 51 [.t (gl ts), .fn 52 [.pr [.i .i64 m.dim, laysT m]]] (bv (!(ts.all fun v => decide ((v.length : Int) = m.dim) && heldRow v))) := by
    rw [List.not_all_eq_any_not]
    refine ctf_run (ix := 74) rfl rfl rfl rfl (fun _ => rfl) ?_
    refine ixf_run (ag := false) (sz := 1) (fun l : List Int => [il l]) _ (fun l => .t (il l)) rfl rfl (by simp) (by simp) hl.1 ?_
    intro l hlm s k hs
    exact ⟨s.ck, by rw [callEv_cl (C := cfg) (tok1_ret l m.dim (laysT m) (hl.2 l hlm)) rfl rfl rfl s k (by simp [puresOf, pureOf, capsOf, capOf]), hs]; rfl⟩
  have h2 := fun s k => callEv_fn (C := cfg) (caps0 := [.pt ⟨2, 0, 0⟩ 2 0 0]) h1 rfl rfl rfl s k
  simp only [bv, gl, laysT] at h2
  refine RetT.of ?_
  rw [runL_pf (fn := f32) rfl rfl]
  unfold tokRight modV laysT
  by_cases c3 : 1 ≤ ts.length
  case neg =>
    have c3' : ¬ (1 : Int) ≤ ts.length := by omega
    simp [gl, c3, c3']
  have c3' : (1 : Int) ≤ ts.length := by omega
  by_cases c4 : ts.length ≤ 16
  case neg =>
    have c4' : ¬ (ts.length : Int) ≤ 16 := by omega
    simp [gl, c3, c3', c4, c4']
  have c4' : (ts.length : Int) ≤ 16 := by omega
  generalize (ts.all fun v => decide ((v.length : Int) = m.dim) && heldRow v) = b at *
  simp [gl, c3, c3', c4, c4', h2, capsOf, capOf, treesOf, treeOf]
end Go.Proofs.YtccnadleegcobaaGreat.Pv
end

section
/- What slots.Assign tells: slots, token by token. -/
namespace Go.Proofs.YtccnadleegcobaaGreat.Pv
open Go Go.Pev

theorem mget_mset (es : List (Int × V)) (n m : Int) (v : V) : mget (mset es n v) m = if n = m then some v else mget es m := by
  induction es with
  | nil => simp [mset, mget]
  | cons a r ih =>
    obtain ⟨a, x⟩ := a
    simp only [mset]
    by_cases h : a = n
    · subst h
      rw [if_pos rfl]
      simp only [mget]
      by_cases h2 : a = m
      · simp [h2]
      · simp [h2]
    · rw [if_neg h]
      simp only [mget]
      by_cases h2 : a = m
      · subst h2
        rw [if_pos rfl, if_neg (fun e => h e.symm), if_pos rfl]
      · rw [if_neg h2, if_neg h2, ih]

/-- How many slots of each expert are given. -/
abbrev Cnt := Int → Int
def may1 (experts cap : Int) (g : Cnt) (x : Int) : Bool := decide (0 ≤ x) && decide (x < experts) && decide (g x < cap)
def slot1 (experts cap : Int) (g : Cnt) (x : Int) : Int := if may1 experts cap g x then g x else -1
def give1 (experts cap : Int) (g : Cnt) (x : Int) : Cnt := if may1 experts cap g x then fun y => if y = x then g x + 1 else g y else g
def asg (experts cap : Int) : Cnt → List (Int × Int) → List (Int × Int)
  | _, [] => []
  | g, c :: r => (slot1 experts cap g c.1, slot1 experts cap (give1 experts cap g c.1) c.2) :: asg experts cap (give1 experts cap (give1 experts cap g c.1) c.2) r
def asgC (experts cap : Int) : Cnt → List (Int × Int) → Cnt
  | g, [] => g
  | g, c :: r => asgC experts cap (give1 experts cap (give1 experts cap g c.1) c.2) r
theorem asg_len (e k : Int) : ∀ (l : List (Int × Int)) (g : Cnt), (asg e k g l).length = l.length
  | [], g => rfl
  | c :: r, g => by simp only [asg, List.length_cons, asg_len e k r]
theorem asg_app (e k : Int) : ∀ (l : List (Int × Int)) (g : Cnt) (c : Int × Int), asg e k g (l ++ [c]) = asg e k g l ++ [(slot1 e k (asgC e k g l) c.1, slot1 e k (give1 e k (asgC e k g l) c.1) c.2)] ∧ asgC e k g (l ++ [c]) = give1 e k (give1 e k (asgC e k g l) c.1) c.2
  | [], g, c => ⟨rfl, rfl⟩
  | d :: r, g, c => by
    obtain ⟨h1, h2⟩ := asg_app e k r (give1 e k (give1 e k g d.1) d.2) c
    exact ⟨by simp only [List.cons_append, asg, h1, asgC], by simp only [List.cons_append, asgC, h2]⟩
theorem asg_take (e k : Int) (l : List (Int × Int)) (g : Cnt) (i : Nat) (hi : i < l.length) : asg e k g (l.take (i + 1)) = asg e k g (l.take i) ++ [(slot1 e k (asgC e k g (l.take i)) l[i].1, slot1 e k (give1 e k (asgC e k g (l.take i)) l[i].1) l[i].2)] ∧ asgC e k g (l.take (i + 1)) = give1 e k (give1 e k (asgC e k g (l.take i)) l[i].1) l[i].2 := by
  rw [List.take_succ_eq_append_getElem hi]
  exact asg_app e k _ g _
/-- No expert has more than two a token. -/
theorem cnt_le (e k : Int) : ∀ (l : List (Int × Int)) (g : Cnt) (x b : Int), (∀ y, g y ≤ b) → asgC e k g l x ≤ b + 2 * l.length
  | [], g, x, b, h => by have := h x; simp [asgC]; omega
  | c :: r, g, x, b, h => by
    have g1 : ∀ (g : Cnt) (b z : Int), (∀ y, g y ≤ b) → ∀ y, give1 e k g z y ≤ b + 1 := by
      intro g b z hg y
      unfold give1
      split
      · simp only
        split
        · have := hg z; omega
        · have := hg y; omega
      · have := hg y; omega
    have := cnt_le e k r _ x (b + 1 + 1) (g1 _ _ c.2 (g1 g b c.1 h))
    simp only [asgC, List.length_cons]
    omega
theorem cnt_ge (e k : Int) : ∀ (l : List (Int × Int)) (g : Cnt) (x : Int), (∀ y, 0 ≤ g y) → 0 ≤ asgC e k g l x
  | [], g, x, h => h x
  | c :: r, g, x, h => by
    have g1 : ∀ (g : Cnt) (z : Int), (∀ y, 0 ≤ g y) → ∀ y, 0 ≤ give1 e k g z y := by
      intro g z hg y
      unfold give1
      split
      · simp only
        split
        · have := hg z; omega
        · exact hg y
      · exact hg y
    exact cnt_ge e k r _ x (g1 _ c.2 (g1 g c.1 h))

def prT (c : Int × Int) : List T := [.i .i64 c.1, .i .i64 c.2]
def prl (l : List (Int × Int)) : T := .l (l.map prT)
/-- What the map says. -/
def Says (es : List (Int × V)) (g : Cnt) : Prop := ∀ x, (mget es x).getD (.t (.i .i64 0)) = .t (.i .i64 (g x))
theorem says_set {es : List (Int × V)} {g : Cnt} (h : Says es g) (x n : Int) : Says (mset es x (.t (.i .i64 n))) (fun y => if y = x then n else g y) := by
  intro y
  rw [mget_mset]
  by_cases e : x = y
  · subst e; simp
  · rw [if_neg e]; simp only [if_neg (fun q : y = x => e q.symm)]; exact h y
section
variable {ty : Nat} {e k : Int} {g : Cnt} {es : List (Int × V)} {r8 : Ob} {v8 v15 v16 v17 : V}
theorem as0 (a b : Int) (hs : Says es g) (hg : ∀ x, 0 ≤ g x ∧ g x ≤ 1000000000) (c c8 o8 ck : Nat) : ∃ es' ck', Says es' (give1 e k g a) ∧ evL cfg f57l0 ⟨[(1, iv e), (2, iv k), (7, .mp ⟨14, 1, 0⟩), (8, v8), (11, .pt ⟨11, c, 1⟩ 2 0 0), (15, v15), (16, v16), (17, v17), (22, .ag [iv a, iv b]), (23, iv 0)], [(⟨11, c, 1⟩, .box ty [iv (-1), iv (-1)]), (⟨8, c8, o8⟩, r8), (⟨14, 1, 0⟩, .mp es)], ck⟩ =
    some (.normal, ⟨[(1, iv e), (2, iv k), (7, .mp ⟨14, 1, 0⟩), (8, v8), (11, .pt ⟨11, c, 1⟩ 2 0 0), (15, v15), (16, v16), (17, v17), (22, .ag [iv a, iv b]), (23, iv 1)], [(⟨11, c, 1⟩, .box ty [iv (slot1 e k g a), iv (-1)]), (⟨8, c8, o8⟩, r8), (⟨14, 1, 0⟩, .mp es')], ck'⟩) := by
  have w1 : IntKind.i64.wrap 1 = 1 := by decide
  have hw : IntKind.i64.wrap (g a + 1) = g a + 1 := wrap_id (by have := hg a; omega) (by have := hg a; omega)
  have hsa := hs a
  by_cases p1 : a < 0
  · have hm : may1 e k g a = false := by simp [may1]; omega
    simp only [give1, slot1, hm, Bool.false_eq_true, if_false]
    simp [f57l0e, p1, w1]
    exact hs
  by_cases p2 : e ≤ a
  · have hm : may1 e k g a = false := by simp [may1]; omega
    simp only [give1, slot1, hm, Bool.false_eq_true, if_false]
    simp [f57l0e, p1, p2, w1]
    exact hs
  by_cases p3 : k ≤ g a
  · have hm : may1 e k g a = false := by simp [may1]; omega
    simp only [give1, slot1, hm, Bool.false_eq_true, if_false]
    simp [f57l0e, p1, p2, p3, mlk, hsa, w1]
    exact hs
  · have hm : may1 e k g a = true := by simp [may1]; omega
    simp only [give1, slot1, hm, if_true]
    simp [f57l0e, p1, p2, p3, mlk, mup, hsa, w1, hw, over]
    exact says_set hs a (g a + 1)
theorem as1 (b a s0 : Int) (hs : Says es g) (hg : ∀ x, 0 ≤ g x ∧ g x ≤ 1000000000) (c c8 o8 ck : Nat) : ∃ es' ck', Says es' (give1 e k g a) ∧ evL cfg f57l0 ⟨[(1, iv e), (2, iv k), (7, .mp ⟨14, 1, 0⟩), (8, v8), (11, .pt ⟨11, c, 1⟩ 2 0 0), (15, v15), (16, v16), (17, v17), (22, .ag [iv b, iv a]), (23, iv 1)], [(⟨11, c, 1⟩, .box ty [iv s0, iv (-1)]), (⟨8, c8, o8⟩, r8), (⟨14, 1, 0⟩, .mp es)], ck⟩ =
    some (.normal, ⟨[(1, iv e), (2, iv k), (7, .mp ⟨14, 1, 0⟩), (8, v8), (11, .pt ⟨11, c, 1⟩ 2 0 0), (15, v15), (16, v16), (17, v17), (22, .ag [iv b, iv a]), (23, iv 2)], [(⟨11, c, 1⟩, .box ty [iv s0, iv (slot1 e k g a)]), (⟨8, c8, o8⟩, r8), (⟨14, 1, 0⟩, .mp es')], ck'⟩) := by
  have w1 : IntKind.i64.wrap 2 = 2 := by decide
  have hw : IntKind.i64.wrap (g a + 1) = g a + 1 := wrap_id (by have := hg a; omega) (by have := hg a; omega)
  have hsa := hs a
  by_cases p1 : a < 0
  · have hm : may1 e k g a = false := by simp [may1]; omega
    simp only [give1, slot1, hm, Bool.false_eq_true, if_false]
    simp [f57l0e, p1, w1]
    exact hs
  by_cases p2 : e ≤ a
  · have hm : may1 e k g a = false := by simp [may1]; omega
    simp only [give1, slot1, hm, Bool.false_eq_true, if_false]
    simp [f57l0e, p1, p2, w1]
    exact hs
  by_cases p3 : k ≤ g a
  · have hm : may1 e k g a = false := by simp [may1]; omega
    simp only [give1, slot1, hm, Bool.false_eq_true, if_false]
    simp [f57l0e, p1, p2, p3, mlk, hsa, w1]
    exact hs
  · have hm : may1 e k g a = true := by simp [may1]; omega
    simp only [give1, slot1, hm, if_true]
    simp [f57l0e, p1, p2, p3, mlk, mup, hsa, w1, hw, over]
    exact says_set hs a (g a + 1)
theorem give_in {z : Int} (hg : ∀ x, 0 ≤ g x ∧ g x ≤ 1000000) : ∀ x, 0 ≤ give1 e k g z x ∧ give1 e k g z x ≤ 1000001 := by
  intro y
  unfold give1
  split
  · simp only
    split
    · have := hg z; omega
    · have := hg y; omega
  · have := hg y; omega
theorem as_in (a b : Int) (hs : Says es g) (hg : ∀ x, 0 ≤ g x ∧ g x ≤ 1000000) (c c8 o8 ck : Nat) : ∃ es' ck', Says es' (give1 e k (give1 e k g a) b) ∧ evL cfg (.loop f57l0) ⟨[(1, iv e), (2, iv k), (7, .mp ⟨14, 1, 0⟩), (8, v8), (11, .pt ⟨11, c, 1⟩ 2 0 0), (15, v15), (16, v16), (17, v17), (22, .ag [iv a, iv b]), (23, iv 0)], [(⟨11, c, 1⟩, .box ty [iv (-1), iv (-1)]), (⟨8, c8, o8⟩, r8), (⟨14, 1, 0⟩, .mp es)], ck⟩ =
    some (.exit 2, ⟨[(1, iv e), (2, iv k), (7, .mp ⟨14, 1, 0⟩), (8, v8), (11, .pt ⟨11, c, 1⟩ 2 0 0), (15, v15), (16, v16), (17, v17), (22, .ag [iv a, iv b]), (23, iv 2), (24, bv false)], [(⟨11, c, 1⟩, .box ty [iv (slot1 e k g a), iv (slot1 e k (give1 e k g a) b)]), (⟨8, c8, o8⟩, r8), (⟨14, 1, 0⟩, .mp es')], ck'⟩) := by
  obtain ⟨e1, k1, h1, h2⟩ := as0 (ty := ty) (e := e) (k := k) (r8 := r8) (v8 := v8) (v15 := v15) (v16 := v16) (v17 := v17) a b hs (fun x => by have := hg x; omega) c c8 o8 ck
  obtain ⟨e2, k2, h3, h4⟩ := as1 (ty := ty) (e := e) (k := k) (r8 := r8) (v8 := v8) (v15 := v15) (v16 := v16) (v17 := v17) a b (slot1 e k g a) h1 (fun x => by have := give_in (e := e) (k := k) (z := a) hg x; omega) c c8 o8 k1
  refine ⟨e2, k2 + 1, h3, ?_⟩
  rw [evL_loop_n h2, evL_loop_n h4, evL_loop]
  simp [f57l0e]
end
def g0 : Cnt := fun _ => 0
def asI (e k : Int) (l : List (Int × Int)) (i : Nat) (s : St) : Prop := ∃ c8 o8 ck els es, els = (asg e k g0 (l.take i)).map prT ∧ Says es (asgC e k g0 (l.take i)) ∧ s = ⟨[(1, iv e), (2, iv k), (7, .mp ⟨14, 1, 0⟩), (8, .ow ⟨8, c8, o8⟩ 2 0 i), (15, .t (prl l)), (16, iv l.length), (17, iv (i : Int))], [(⟨8, c8, o8⟩, .row 123 2 els false), (⟨14, 1, 0⟩, .mp es)], ck⟩
def asQ (e k : Int) (l : List (Int × Int)) (E : Option (Ex × St)) : Prop := ∃ c8 o8 ck v r, E = some (.exit 0, ⟨[(1, iv e), (2, iv k), (7, .mp ⟨14, 1, 0⟩), (8, .ow ⟨8, c8, o8⟩ 2 0 l.length), (15, .t (prl l)), (16, iv l.length), (17, iv l.length), (18, v)], (⟨8, c8, o8⟩, .row 123 2 ((asg e k g0 l).map prT) false) :: r, ck⟩)
theorem assign_ret (l : List (Int × Int)) (e k : Int) (hl : l.length ≤ 100000) : RetT cfg 57 [.t (prl l), iv e, iv k] (.t (prl (asg e k g0 l))) := by
  have hL : ∀ ck c8 o8, asQ e k l (evL cfg (.loop f57l1) ⟨[(1, iv e), (2, iv k), (7, .mp ⟨14, 1, 0⟩), (8, .ow ⟨8, c8, o8⟩ 2 0 0), (15, .t (prl l)), (16, iv l.length), (17, iv 0)], [(⟨8, c8, o8⟩, .row 123 2 [] false), (⟨14, 1, 0⟩, .mp [])], ck⟩) := by
    intro ck c8 o8
    refine loop_q l.length (asI e k l) ?_ ?_ _ ⟨c8, o8, ck, [], [], rfl, fun x => rfl, rfl⟩
    · rintro i s hi ⟨c8, o8, ck, els, es, h1, h2, rfl⟩
      have hw : IntKind.i64.wrap ((i : Int) + 1) = (i : Int) + 1 := wrap_id (by omega) (by omega)
      obtain ⟨t1, t2⟩ := asg_take e k l g0 i hi
      have hlen : els.length = i := by rw [h1]; simp [asg_len]; omega
      have hb : (i + 1) * 16 ≤ 140737488355328 := by omega
      have hgi : ∀ x, 0 ≤ asgC e k g0 (l.take i) x ∧ asgC e k g0 (l.take i) x ≤ 1000000 := fun x => by
        have a1 := cnt_le e k (l.take i) g0 x 0 (fun y => Int.le_refl _)
        have a2 := cnt_ge e k (l.take i) g0 x (fun y => Int.le_refl _)
        have : (l.take i).length ≤ 100000 := by simp; omega
        omega
      generalize asgC e k g0 (l.take i) = g at *
      obtain ⟨es', ck', h3, h4⟩ := as_in (ty := 123) (e := e) (k := k) (es := es) (r8 := .row 123 2 els false) (v8 := .ow ⟨8, c8, o8⟩ 2 0 i) (v15 := .t (prl l)) (v16 := iv l.length) (v17 := iv i) l[i].1 l[i].2 h2 hgi (ck + 1 + 1) c8 o8 (ck + 1 + 1 + 1 + 1)
      simp [prl, prT] at h4
      simp [f57l1e, prl, prT, hi, hw, h4, rowsOf, keysOfs, treesC, treesOf, treeOf, keysOf1, freezeAll, app, elsOf, over, buildV, hb, hlen]
      exact ⟨_, _, _, _, _, by rw [t1, h1]; simp [prT], by rw [t2]; exact h3, rfl⟩
    · rintro s ⟨c8, o8, ck, els, es, h1, h2, rfl⟩
      rw [List.take_length] at h1
      subst h1
      simp [f57l1e]
      exact ⟨_, _, _, _, _, rfl⟩
  obtain ⟨c8, o8, ck, v, r, hc⟩ := hL 4 2 0
  simp [prl] at hc
  rw [retT_r, runL_pf (fn := f57) rfl rfl]
  simp [prl, hc, resOf, resOf1, treeOf, List.take_of_length_le, asg_len]
end Go.Proofs.YtccnadleegcobaaGreat.Pv
end

section
/- What model.Parts tells: who does what. -/
namespace Go.Proofs.YtccnadleegcobaaGreat.Pv
open Go Go.Pev

/-- What an expert does for a token. -/
structure Pt where
  token : Int
  rank : Int
  expert : Int
  weight : Int
  deriving DecidableEq
def ptT (p : Pt) : List T := [.i .i64 p.token, .i .i64 p.rank, .i .i64 p.expert, .i .i64 p.weight]
def ptl (l : List Pt) : T := .l (l.map ptT)
def pt0 (t : Nat) (c : Cho) (s : Int) : List Pt := if 0 ≤ s then [⟨t, 0, c.first, c.w1⟩] else []
def pt1 (t : Nat) (c : Cho) (s : Int) : List Pt := if 0 ≤ s then [⟨t, 1, c.second, c.w2⟩] else []
def partsA : Nat → List Cho → List (Int × Int) → List Pt
  | t, c :: cs, s :: ss => pt0 t c s.1 ++ pt1 t c s.2 ++ partsA (t + 1) cs ss
  | _, _, _ => []
def wants (ch : List Cho) : List (Int × Int) := ch.map fun c => (c.first, c.second)
def chosen (l : Lay) (ts : List (List Int)) : List Cho := ts.map (choP l.gate)
def partsP (l : Lay) (ts : List (List Int)) : List Pt := partsA 0 (chosen l ts) (asg l.exps.length l.cap g0 (wants (chosen l ts)))
def chT (c : Cho) : List T := [.i .i64 c.first, .i .i64 c.second, .i .i64 c.w1, .i .i64 c.w2]

theorem pt0_len (t : Nat) (c : Cho) (s : Int) : (pt0 t c s).length ≤ 1 := by unfold pt0; split <;> simp
theorem pt1_len (t : Nat) (c : Cho) (s : Int) : (pt1 t c s).length ≤ 1 := by unfold pt1; split <;> simp

/-! ### the choices -/
def p0I (l : Lay) (ts : List (List Int)) (bx : List V) (ty : Nat) (i : Nat) (s : St) : Prop := ∃ c5 o5 c6 o6 ck e5 e6, e5 = ((chosen l ts).take i).map chT ∧ e6 = ((wants (chosen l ts)).take i).map prT ∧ s = ⟨[(2, .pt ⟨2, 0, 0⟩ 3 0 0), (5, .ow ⟨5, c5, o5⟩ 4 0 i), (6, .ow ⟨6, c6, o6⟩ 2 0 i), (16, .t (gl ts)), (17, iv ts.length), (18, iv (i : Int))], [(⟨6, c6, o6⟩, .row 123 2 e6 false), (⟨5, c5, o5⟩, .row 120 4 e5 false), (⟨2, 0, 0⟩, .box ty bx)], ck⟩
def p0Q (l : Lay) (ts : List (List Int)) (bx : List V) (ty : Nat) (E : Option (Ex × St)) : Prop := ∃ c5 o5 c6 o6 ck v, E = some (.exit 0, ⟨[(2, .pt ⟨2, 0, 0⟩ 3 0 0), (5, .ow ⟨5, c5, o5⟩ 4 0 ts.length), (6, .ow ⟨6, c6, o6⟩ 2 0 ts.length), (16, .t (gl ts)), (17, iv ts.length), (18, iv ts.length), (19, v)], [(⟨6, c6, o6⟩, .row 123 2 ((wants (chosen l ts)).map prT) false), (⟨5, c5, o5⟩, .row 120 4 ((chosen l ts).map chT) false), (⟨2, 0, 0⟩, .box ty bx)], ck⟩)
theorem p0_loop (l : Lay) (ts : List (List Int)) (b1 b2 : V) (ty : Nat) (hg : Few l.gate) (hl : ts.length ≤ 100000) (c5 o5 c6 o6 ck : Nat) : p0Q l ts [.t (gl l.gate), b1, b2] ty (evL cfg (.loop f33l0) ⟨[(2, .pt ⟨2, 0, 0⟩ 3 0 0), (5, .ow ⟨5, c5, o5⟩ 4 0 0), (6, .ow ⟨6, c6, o6⟩ 2 0 0), (16, .t (gl ts)), (17, iv ts.length), (18, iv 0)], [(⟨6, c6, o6⟩, .row 123 2 [] false), (⟨5, c5, o5⟩, .row 120 4 [] false), (⟨2, 0, 0⟩, .box ty [.t (gl l.gate), b1, b2])], ck⟩) := by
  refine loop_q ts.length (p0I l ts [.t (gl l.gate), b1, b2] ty) ?_ ?_ _ ⟨c5, o5, c6, o6, ck, [], [], rfl, rfl, rfl⟩
  · rintro i s hi ⟨c5, o5, c6, o6, ck, e5, e6, h5, h6, rfl⟩
    have hw : IntKind.i64.wrap ((i : Int) + 1) = (i : Int) + 1 := wrap_id (by omega) (by omega)
    have hcl : (chosen l ts).length = ts.length := by simp [chosen]
    have hwl : (wants (chosen l ts)).length = ts.length := by simp [wants, chosen]
    have l5 : e5.length = i := by rw [h5]; simp [hcl]; omega
    have l6 : e6.length = i := by rw [h6]; simp [hwl]; omega
    have b5 : (i + 1) * 32 ≤ 140737488355328 := by omega
    have b6 : (i + 1) * 16 ≤ 140737488355328 := by omega
    have t5 : (chosen l ts).take (i + 1) = (chosen l ts).take i ++ [choP l.gate ts[i]] := by
      rw [List.take_succ_eq_append_getElem (by omega)]; simp [chosen]
    have t6 : (wants (chosen l ts)).take (i + 1) = (wants (chosen l ts)).take i ++ [((choP l.gate ts[i]).first, (choP l.gate ts[i]).second)] := by
      rw [List.take_succ_eq_append_getElem (by omega)]; simp [wants, chosen]
    have hc := fun s k => callEv_tr (C := cfg) (choose_ret l.gate ts[i] hg) rfl rfl rfl s k
    simp only [gl, il, choC, iv, bv] at hc
    generalize choP l.gate ts[i] = c at *
    simp [f33l0e, gl, il, hi, hw, hc, rowsOf, keysOfs, treesC, treesOf, treeOf, keysOf1, freezeAll, app, elsOf, over, buildV, b5, b6, l5, l6]
    exact ⟨_, _, _, _, _, _, _, by rw [t5, h5]; simp [chT], by rw [t6, h6]; simp [prT], rfl⟩
  · rintro s ⟨c5, o5, c6, o6, ck, e5, e6, h5, h6, rfl⟩
    rw [List.take_of_length_le (by simp [chosen])] at h5
    rw [List.take_of_length_le (by simp [chosen, wants])] at h6
    subst h5 h6
    simp [f33l0e]
    exact ⟨_, _, _, _, _, _, rfl⟩

/-! ### the parts, two a token -/
section
variable {w : List (Int × Int)} {ch : List Cho} {out : List Pt} {v48 v49 v50 : V} {s0 s1 : Int} {t : Nat}
theorem ps0 (hw : w.length = ch.length) (ht : t < ch.length) (hwt : w = wants ch) (ho : out.length ≤ 1000000) (c o c5 o5 c6 o6 ck n5 n6 : Nat) (hn5 : n5 = ch.length) (hn6 : n6 = ch.length) : ∃ c' o' ck', evL cfg f33l1 ⟨[(5, .ow ⟨5, c5, o5⟩ 4 0 n5), (6, .ow ⟨6, c6, o6⟩ 2 0 n6), (11, .ow ⟨11, c, o⟩ 4 0 out.length), (12, iv t), (48, v48), (49, v49), (50, v50), (55, .ag [iv s0, iv s1]), (56, iv 0)], [(⟨11, c, o⟩, .row 93 4 (out.map ptT) false), (⟨6, c6, o6⟩, .row 123 2 (w.map prT) true), (⟨5, c5, o5⟩, .row 120 4 (ch.map chT) false)], ck⟩ =
    some (.normal, ⟨[(5, .ow ⟨5, c5, o5⟩ 4 0 n5), (6, .ow ⟨6, c6, o6⟩ 2 0 n6), (11, .ow ⟨11, c', o'⟩ 4 0 (out ++ pt0 t ch[t] s0).length), (12, iv t), (48, v48), (49, v49), (50, v50), (55, .ag [iv s0, iv s1]), (56, iv 1)], [(⟨11, c', o'⟩, .row 93 4 ((out ++ pt0 t ch[t] s0).map ptT) false), (⟨6, c6, o6⟩, .row 123 2 (w.map prT) true), (⟨5, c5, o5⟩, .row 120 4 (ch.map chT) false)], ck'⟩) := by
  subst hn5 hn6
  have w1 : IntKind.i64.wrap 1 = 1 := by decide
  have htw : t < w.length := by omega
  have hwe : w[t] = (ch[t].first, ch[t].second) := by subst hwt; simp [wants]
  have hb : (out.length + 1) * 32 ≤ 140737488355328 := by omega
  unfold pt0
  by_cases p : 0 ≤ s0
  · rw [if_pos p]
    simp [f33l1e, p, w1, ht, htw, hwe, chT, prT, rowsOf, keysOfs, treesC, treesOf, treeOf, keysOf1, freezeAll, app, elsOf, over, buildV, hb]
    rfl
  · rw [if_neg p]
    simp [f33l1e, p, w1]
theorem ps1 (hw : w.length = ch.length) (ht : t < ch.length) (hwt : w = wants ch) (ho : out.length ≤ 1000000) (c o c5 o5 c6 o6 ck n5 n6 : Nat) (hn5 : n5 = ch.length) (hn6 : n6 = ch.length) : ∃ c' o' ck', evL cfg f33l1 ⟨[(5, .ow ⟨5, c5, o5⟩ 4 0 n5), (6, .ow ⟨6, c6, o6⟩ 2 0 n6), (11, .ow ⟨11, c, o⟩ 4 0 out.length), (12, iv t), (48, v48), (49, v49), (50, v50), (55, .ag [iv s0, iv s1]), (56, iv 1)], [(⟨11, c, o⟩, .row 93 4 (out.map ptT) false), (⟨6, c6, o6⟩, .row 123 2 (w.map prT) true), (⟨5, c5, o5⟩, .row 120 4 (ch.map chT) false)], ck⟩ =
    some (.normal, ⟨[(5, .ow ⟨5, c5, o5⟩ 4 0 n5), (6, .ow ⟨6, c6, o6⟩ 2 0 n6), (11, .ow ⟨11, c', o'⟩ 4 0 (out ++ pt1 t ch[t] s1).length), (12, iv t), (48, v48), (49, v49), (50, v50), (55, .ag [iv s0, iv s1]), (56, iv 2)], [(⟨11, c', o'⟩, .row 93 4 ((out ++ pt1 t ch[t] s1).map ptT) false), (⟨6, c6, o6⟩, .row 123 2 (w.map prT) true), (⟨5, c5, o5⟩, .row 120 4 (ch.map chT) false)], ck'⟩) := by
  subst hn5 hn6
  have w1 : IntKind.i64.wrap 2 = 2 := by decide
  have htw : t < w.length := by omega
  have hwe : w[t] = (ch[t].first, ch[t].second) := by subst hwt; simp [wants]
  have hb : (out.length + 1) * 32 ≤ 140737488355328 := by omega
  unfold pt1
  by_cases p : 0 ≤ s1
  · rw [if_pos p]
    simp [f33l1e, p, w1, ht, htw, hwe, chT, prT, rowsOf, keysOfs, treesC, treesOf, treeOf, keysOf1, freezeAll, app, elsOf, over, buildV, hb]
    rfl
  · rw [if_neg p]
    simp [f33l1e, p, w1]
theorem ps_in (hw : w.length = ch.length) (ht : t < ch.length) (hwt : w = wants ch) (ho : out.length ≤ 900000) (c o c5 o5 c6 o6 ck n5 n6 : Nat) (hn5 : n5 = ch.length) (hn6 : n6 = ch.length) : ∃ c' o' ck', evL cfg (.loop f33l1) ⟨[(5, .ow ⟨5, c5, o5⟩ 4 0 n5), (6, .ow ⟨6, c6, o6⟩ 2 0 n6), (11, .ow ⟨11, c, o⟩ 4 0 out.length), (12, iv t), (48, v48), (49, v49), (50, v50), (55, .ag [iv s0, iv s1]), (56, iv 0)], [(⟨11, c, o⟩, .row 93 4 (out.map ptT) false), (⟨6, c6, o6⟩, .row 123 2 (w.map prT) true), (⟨5, c5, o5⟩, .row 120 4 (ch.map chT) false)], ck⟩ =
    some (.exit 4, ⟨[(5, .ow ⟨5, c5, o5⟩ 4 0 n5), (6, .ow ⟨6, c6, o6⟩ 2 0 n6), (11, .ow ⟨11, c', o'⟩ 4 0 (out ++ (pt0 t ch[t] s0 ++ pt1 t ch[t] s1)).length), (12, iv t), (48, v48), (49, v49), (50, v50), (55, .ag [iv s0, iv s1]), (56, iv 2), (57, bv false)], [(⟨11, c', o'⟩, .row 93 4 ((out ++ (pt0 t ch[t] s0 ++ pt1 t ch[t] s1)).map ptT) false), (⟨6, c6, o6⟩, .row 123 2 (w.map prT) true), (⟨5, c5, o5⟩, .row 120 4 (ch.map chT) false)], ck'⟩) := by
  obtain ⟨c1, o1, k1, h1⟩ := ps0 (out := out) (v48 := v48) (v49 := v49) (v50 := v50) (s0 := s0) (s1 := s1) hw ht hwt (by omega) c o c5 o5 c6 o6 ck n5 n6 hn5 hn6
  have hl := pt0_len t ch[t] s0
  obtain ⟨c2, o2, k2, h2⟩ := ps1 (v48 := v48) (v49 := v49) (v50 := v50) (s0 := s0) (s1 := s1) (out := out ++ pt0 t ch[t] s0) hw ht hwt (by simp; omega) c1 o1 c5 o5 c6 o6 k1 n5 n6 hn5 hn6
  refine ⟨c2, o2, k2 + 1, ?_⟩
  rw [evL_loop_n h1, evL_loop_n h2, evL_loop, ← List.append_assoc]
  simp [f33l1e]
end
/-- As far as the i-th token. -/
def partsT (ch : List Cho) (ss : List (Int × Int)) (i : Nat) : List Pt := partsA 0 (ch.take i) (ss.take i)
theorem partsA_app (cs : List Cho) (ss : List (Int × Int)) (c : Cho) (x : Int × Int) : ∀ (t : Nat), cs.length = ss.length → partsA t (cs ++ [c]) (ss ++ [x]) = partsA t cs ss ++ (pt0 (t + cs.length) c x.1 ++ pt1 (t + cs.length) c x.2) := by
  induction cs generalizing ss with
  | nil =>
    intro t h
    cases ss with
    | nil => simp [partsA]
    | cons _ _ => cases h
  | cons d cs ih =>
    intro t h
    cases ss with
    | nil => cases h
    | cons y ss =>
      simp only [List.cons_append, partsA, ih ss (t + 1) (by simpa using h), List.length_cons, List.append_assoc]
      rw [show t + 1 + cs.length = t + (cs.length + 1) by omega]
theorem partsT_s {ch : List Cho} {ss : List (Int × Int)} (h : ch.length = ss.length) {i : Nat} (hi : i < ch.length) : partsT ch ss (i + 1) = partsT ch ss i ++ (pt0 i ch[i] (ss[i]'(by omega)).1 ++ pt1 i ch[i] (ss[i]'(by omega)).2) := by
  unfold partsT
  rw [List.take_succ_eq_append_getElem hi, List.take_succ_eq_append_getElem (by omega), partsA_app _ _ _ _ 0 (by simp; omega)]
  simp [Nat.min_eq_left (Nat.le_of_lt hi)]
theorem partsT_len {ch : List Cho} {ss : List (Int × Int)} (h : ch.length = ss.length) : ∀ i, i ≤ ch.length → (partsT ch ss i).length ≤ 2 * i
  | 0, _ => by simp [partsT, partsA]
  | i + 1, hi => by
    rw [partsT_s h (by omega)]
    have := partsT_len h i (by omega)
    have a := pt0_len i ch[i] (ss[i]'(by omega)).1
    have b := pt1_len i ch[i] (ss[i]'(by omega)).2
    simp only [List.length_append]
    omega
def p2I (ch : List Cho) (ss : List (Int × Int)) (c5 o5 c6 o6 : Nat) (i : Nat) (s : St) : Prop := ∃ c o ck out, out = partsT ch ss i ∧ s = ⟨[(5, .ow ⟨5, c5, o5⟩ 4 0 ch.length), (6, .ow ⟨6, c6, o6⟩ 2 0 ch.length), (11, .ow ⟨11, c, o⟩ 4 0 out.length), (48, .t (prl ss)), (49, iv ss.length), (50, iv (i : Int))], [(⟨11, c, o⟩, .row 93 4 (out.map ptT) false), (⟨6, c6, o6⟩, .row 123 2 ((wants ch).map prT) true), (⟨5, c5, o5⟩, .row 120 4 (ch.map chT) false)], ck⟩
def p2Q (ch : List Cho) (ss : List (Int × Int)) (E : Option (Ex × St)) : Prop := ∃ c o ck e r, E = some (.exit 2, ⟨e, (⟨11, c, o⟩, .row 93 4 ((partsA 0 ch ss).map ptT) false) :: r, ck⟩) ∧ Env.get e 11 = .ow ⟨11, c, o⟩ 4 0 (partsA 0 ch ss).length
theorem p2_loop (ch : List Cho) (ss : List (Int × Int)) (h : ch.length = ss.length) (hl : ch.length ≤ 100000) (c5 o5 c6 o6 c o ck : Nat) : p2Q ch ss (evL cfg (.loop f33l2) ⟨[(5, .ow ⟨5, c5, o5⟩ 4 0 ch.length), (6, .ow ⟨6, c6, o6⟩ 2 0 ch.length), (11, .ow ⟨11, c, o⟩ 4 0 0), (48, .t (prl ss)), (49, iv ss.length), (50, iv 0)], [(⟨11, c, o⟩, .row 93 4 [] false), (⟨6, c6, o6⟩, .row 123 2 ((wants ch).map prT) true), (⟨5, c5, o5⟩, .row 120 4 (ch.map chT) false)], ck⟩) := by
  refine loop_q ch.length (p2I ch ss c5 o5 c6 o6) ?_ ?_ _ ⟨c, o, ck, [], rfl, rfl⟩
  · rintro i s hi ⟨c, o, ck, out, h1, rfl⟩
    have hw : IntKind.i64.wrap ((i : Int) + 1) = (i : Int) + 1 := wrap_id (by omega) (by omega)
    have his : i < ss.length := by omega
    have hol : out.length ≤ 900000 := by have := partsT_len h i (by omega); rw [← h1] at this; omega
    obtain ⟨c', o', ck', hc⟩ := ps_in (w := wants ch) (v48 := .t (prl ss)) (v49 := iv ss.length) (v50 := iv i) (s0 := ss[i].1) (s1 := ss[i].2) (by simp [wants]) hi rfl hol c o c5 o5 c6 o6 (ck + 1 + 1 + 1) ch.length ch.length rfl rfl
    have hs := partsT_s h hi
    rw [← h1] at hs
    rw [← hs] at hc
    simp [prl] at hc
    simp [f33l2e, prl, prT, hi, his, hw, hc, over]
    exact ⟨_, _, _, _, rfl, rfl⟩
  · rintro s ⟨c, o, ck, out, h1, rfl⟩
    have : partsT ch ss ch.length = partsA 0 ch ss := by unfold partsT; rw [List.take_of_length_le (Nat.le_refl _), List.take_of_length_le (by omega)]
    rw [this] at h1
    subst h1
    simp [f33l2e, h]
    exact ⟨_, _, _, _, _, rfl, rfl⟩
theorem parts_ret (l : Lay) (ts : List (List Int)) (hg : Few l.gate) (hl : ts.length ≤ 100000) : RetT cfg 33 [layV l, .t (gl ts)] (.t (ptl (partsP l ts))) := by
  obtain ⟨c5, o5, c6, o6, ck, v, h0⟩ := p0_loop l ts (.t (.l (l.exps.map exT))) (iv l.cap) 57 hg hl 1 0 2 0 4
  have hcl : (chosen l ts).length = ts.length := by simp [chosen]
  have hA := fun (s : St) (k : Key) (hs : s.hp.get ⟨6, c6, o6⟩ = some (.row 123 2 ((wants (chosen l ts)).map prT) false)) => callEv_owk (C := cfg) (n := ts.length) (args := [iv l.exps.length, iv l.cap]) (assign_ret (wants (chosen l ts)) l.exps.length l.cap (by simp [wants, hcl]; omega)) (by simp [wants, hcl]) rfl rfl rfl rfl s k hs
  have hsl : (chosen l ts).length = (asg l.exps.length l.cap g0 (wants (chosen l ts))).length := by simp [asg_len, wants]
  obtain ⟨c, o, ck2, e2, r2, h2, h3⟩ := p2_loop (chosen l ts) _ hsl (by omega) c5 o5 c6 o6 ck 0 (ck + 1 + 1)
  unfold partsP
  rw [← hsl, hcl] at h2
  generalize partsA 0 (chosen l ts) (asg l.exps.length l.cap g0 (wants (chosen l ts))) = out at *
  have hal : (asg l.exps.length l.cap g0 (wants (chosen l ts))).length = ts.length := by omega
  generalize asg l.exps.length l.cap g0 (wants (chosen l ts)) = ss at *
  simp [gl] at h0
  simp only [iv] at hA
  simp [prl] at h2
  rw [retT_r, runL_pf (fn := f33) rfl rfl]
  simp [layV, gl, h0, hA, prl, hal, freezeAll, freeze1, h2, h3, resOf, resOf1, treeOf, ptl, List.take_of_length_le]
end Go.Proofs.YtccnadleegcobaaGreat.Pv
end

section
/- What Holds tells. -/
namespace Go.Proofs.YtccnadleegcobaaGreat.Pv
open Go Go.Pev
def holds (h : List (List Int)) (x n : Int) : Bool := decide (0 ≤ x ∧ x < h.length) && (h.getD x.toNat []).contains n

end Go.Proofs.YtccnadleegcobaaGreat.Pv
end

section
/- Is a map right? -/
namespace Go.Proofs.YtccnadleegcobaaGreat.Pv
open Go Go.Pev
/-- A row of nodes, above one. -/
def rowUp : Int → List Int → Bool
  | _, [] => true
  | last, n :: r => decide (last < n) && decide (n ≤ 4) && rowUp n r
def right (e : Int) (h : List (List Int)) : Bool := decide (0 ≤ e ∧ e ≤ 2147483647 ∧ h.length ≤ 8) && h.all fun r => rowUp 0 r && !r.isEmpty

end Go.Proofs.YtccnadleegcobaaGreat.Pv
end

section
/- Plain facts of rows of nodes. -/
namespace Go.Proofs.YtccnadleegcobaaGreat.Pv
open Go Go.Pev
end Go.Proofs.YtccnadleegcobaaGreat.Pv
end

section
/- What may, turned, Add, Retire tell (place). -/
namespace Go.Proofs.YtccnadleegcobaaGreat.Pv
open Go Go.Pev
def may (e : Int) (h : List (List Int)) (x n : Int) : Bool := right e h && decide (0 ≤ x) && decide (x < h.length) && decide (1 ≤ n) && decide (n ≤ 4) && decide (e < 2147483647)

theorem clone2_ret (xs : List (List T)) (h : ∀ c ∈ xs, c.length = 1) (hl : xs.length ≤ 1000000) : RetO cfg 60 [.t (.l xs)] 38 1 xs := by
  refine ⟨⟨0, 0, 0⟩, [(⟨0, 0, 0⟩, .row 38 1 xs false)], 9, ?_, by simp [HP.get]⟩
  rw [runL_ex (p := cloneP 38 1 24) rfl]
  unfold cloneP
  have h1 : (xs.all fun c => c.length == 1) = true := List.all_eq_true.2 fun c hc => by simpa using h c hc
  have h2 : xs.length * 24 ≤ 140737488355328 := by omega
  simp only [h1, h2]
  simp
end Go.Proofs.YtccnadleegcobaaGreat.Pv
end

section
/- What model.Combine tells: answers, added to tokens. -/
namespace Go.Proofs.YtccnadleegcobaaGreat.Pv
open Go Go.Pev

def comb1 (answers : List (List Int)) (i : Nat) (p : Pt) (acc : List (List Int)) : List (List Int) :=
  if i < answers.length ∧ 0 ≤ p.token ∧ p.token < acc.length ∧ (acc.getD p.token.toNat []).length = (answers.getD i []).length then acc.set p.token.toNat (addR (acc.getD p.token.toNat []) (scaleR (answers.getD i []) p.weight)) else acc
def combA (answers : List (List Int)) : Nat → List Pt → List (List Int) → List (List Int)
  | _, [], acc => acc
  | i, p :: r, acc => combA answers (i + 1) r (comb1 answers i p acc)
def combP (tokens : List (List Int)) (parts : List Pt) (answers : List (List Int)) : List (List Int) := combA answers 0 parts tokens
theorem comb1_len (answers : List (List Int)) (i : Nat) (p : Pt) (acc : List (List Int)) : (comb1 answers i p acc).length = acc.length := by unfold comb1; split <;> simp
theorem comb1_few {answers : List (List Int)} {i : Nat} {p : Pt} {acc : List (List Int)} (h : ∀ r ∈ acc, r.length ≤ 1000000) : ∀ r ∈ comb1 answers i p acc, r.length ≤ 1000000 := by
  unfold comb1
  split
  · rename_i hc
    intro r hr
    rcases List.mem_or_eq_of_mem_set hr with hr | rfl
    · exact h r hr
    · have : p.token.toNat < acc.length := by omega
      have := h _ (List.getElem_mem this)
      have e : acc.getD p.token.toNat [] = acc[p.token.toNat] := by simp [List.getD_eq_getElem?_getD, *]
      rw [e]
      simp only [addR, List.length_zipWith]
      omega
  · exact h
theorem combA_drop {answers : List (List Int)} {parts : List Pt} {i : Nat} (hi : i < parts.length) (acc : List (List Int)) : combA answers i (parts.drop i) acc = combA answers (i + 1) (parts.drop (i + 1)) (comb1 answers i parts[i] acc) := by
  rw [List.drop_eq_getElem_cons hi]; rfl
def cbI (ts : List (List Int)) (parts : List Pt) (answers : List (List Int)) (k : Key) (i : Nat) (s : St) : Prop := ∃ (acc : List (List Int)) (ck : Nat), combA answers i (parts.drop i) acc = combP ts parts answers ∧ acc.length = ts.length ∧ (∀ r ∈ acc, r.length ≤ 1000000) ∧ s = ⟨[(2, .t (gl answers)), (7, .ow k 1 0 ts.length), (14, .t (ptl parts)), (15, iv parts.length), (16, iv (i : Int))], [(k, .row 38 1 (acc.map fun r => [il r]) false)], ck⟩
def cbQ (ts : List (List Int)) (parts : List Pt) (answers : List (List Int)) (k : Key) (E : Option (Ex × St)) : Prop := ∃ ck v, (combP ts parts answers).length = ts.length ∧ E = some (.exit 0, ⟨[(2, .t (gl answers)), (7, .ow k 1 0 ts.length), (14, .t (ptl parts)), (15, iv parts.length), (16, iv parts.length), (17, v)], [(k, .row 38 1 ((combP ts parts answers).map fun r => [il r]) false)], ck⟩)
theorem cb_loop (ts : List (List Int)) (parts : List Pt) (answers : List (List Int)) (hp : parts.length ≤ 1000000) (hf : Few ts) (ha : Few answers) (c o ck : Nat) : cbQ ts parts answers ⟨13, c, o⟩ (evL cfg (.loop f35l0) ⟨[(2, .t (gl answers)), (7, .ow ⟨13, c, o⟩ 1 0 ts.length), (14, .t (ptl parts)), (15, iv parts.length), (16, iv 0)], [(⟨13, c, o⟩, .row 38 1 (ts.map fun r => [il r]) false)], ck⟩) := by
  refine loop_q parts.length (cbI ts parts answers ⟨13, c, o⟩) ?_ ?_ _ ⟨ts, ck, rfl, rfl, hf.2, rfl⟩
  · rintro i s hi ⟨acc, ck, h1, h2, h3, rfl⟩
    have hw : IntKind.i64.wrap ((i : Int) + 1) = (i : Int) + 1 := wrap_id (by omega) (by omega)
    rw [combA_drop hi] at h1
    have h2' := (comb1_len answers i parts[i] acc).trans h2
    have h3' := comb1_few (answers := answers) (i := i) (p := parts[i]) h3
    have hpe : (parts.map ptT)[i]? = some (ptT parts[i]) := by simp [hi]
    generalize hpi : parts[i] = p at *
    have d0 : decide ((i : Int) < parts.length) = true := decide_eq_true (by omega)
    by_cases c1 : i < answers.length
    case neg =>
      have e : comb1 answers i p acc = acc := by unfold comb1; rw [if_neg (fun h => c1 h.1)]
      rw [e] at h1
      have c1' : answers.length ≤ i := by omega
      simp [f35l0e, gl, ptl, ptT, hpi, hi, hw, c1', over]
      exact ⟨_, _, h1, h2, h3, rfl⟩
    have c1' : ¬ answers.length ≤ i := by omega
    by_cases c2 : p.token < 0
    · have e : comb1 answers i p acc = acc := by unfold comb1; rw [if_neg (fun h => by omega)]
      rw [e] at h1
      simp [f35l0e, gl, ptl, ptT, hpi, hi, hw, c1', c2, over]
      exact ⟨_, _, h1, h2, h3, rfl⟩
    by_cases c3 : (ts.length : Int) ≤ p.token
    · have e : comb1 answers i p acc = acc := by unfold comb1; rw [if_neg (fun h => by omega)]
      rw [e] at h1
      simp [f35l0e, gl, ptl, ptT, hpi, hi, hw, c1', c2, c3, over]
      exact ⟨_, _, h1, h2, h3, rfl⟩
    obtain ⟨tk, htk⟩ : ∃ tk : Nat, p.token = tk := ⟨p.token.toNat, by omega⟩
    have htl : tk < acc.length := by omega
    have htn : tk < ts.length := by omega
    have c0 : (0 : Int) ≤ p.token := by omega
    have d2 : decide ((tk : Int) < 0) = false := decide_eq_false (by omega)
    have d3 : ¬ ts.length ≤ tk := by omega
    have g1 : acc.getD tk [] = acc[tk] := by simp [List.getD_eq_getElem?_getD, htl]
    have g2 : answers.getD i [] = answers[i] := by simp [List.getD_eq_getElem?_getD, c1]
    have e : comb1 answers i p acc = if acc[tk].length = answers[i].length then acc.set tk (addR acc[tk] (scaleR answers[i] p.weight)) else acc := by
      unfold comb1
      rw [htk, Int.toNat_natCast, g1, g2]
      by_cases h : acc[tk].length = answers[i].length
      · rw [if_pos ⟨c1, by omega, by omega, h⟩, if_pos h]
      · rw [if_neg (fun q => h q.2.2.2), if_neg h]
    have hS := fun hp => callQ_tr (C := cfg) (scale_ret answers[i] p.weight (ha.2 _ (List.getElem_mem c1))) rfl hp
    have hA := fun hp => callQ_tr (C := cfg) (vadd_ret acc[tk] (scaleR answers[i] p.weight) (h3 _ (List.getElem_mem htl))) rfl hp
    have hsl : (scaleR answers[i] p.weight).length = answers[i].length := by simp [scaleR]
    rw [hsl] at hA
    rw [e] at h1 h2' h3'
    generalize scaleR answers[i] p.weight = sc at *
    simp only [il, iv, bv] at hS hA
    by_cases h : acc[tk].length = answers[i].length
    · rw [if_pos h] at h1 h2' h3'
      simp only [h, decide_true, if_true] at hA
      simp [f35l0e, gl, il, ptl, ptT, hpi, hi, hw, c1, c1', d2, d3, htk, htl, htn, hS, hA, treesC, treesOf, treeOf, keysOf, freezeAll, over]
      exact ⟨_, _, h1, h2', h3', by simp [il, gl, ptl, List.map_set]; rfl⟩
    · rw [if_neg h] at h1 h2' h3'
      simp only [h, decide_false, if_false] at hA
      simp [f35l0e, gl, il, ptl, ptT, hpi, hi, hw, c1, c1', d2, d3, htk, htl, htn, hS, hA, treesC, treesOf, treeOf, keysOf, freezeAll, over]
      exact ⟨_, _, h1, h2', h3', rfl⟩
  · rintro s ⟨acc, ck, h1, h2, h3, rfl⟩
    simp [combA] at h1
    subst h1
    simp [f35l0e]
    exact ⟨_, _, h2, rfl⟩
theorem comb_ret (ts : List (List Int)) (parts : List Pt) (answers : List (List Int)) (hp : parts.length ≤ 1000000) (hf : Few ts) (ha : Few answers) : RetT cfg 35 [.t (gl ts), .t (ptl parts), .t (gl answers)] (.t (gl (combP ts parts answers))) := by
  have hc := fun s k => callEv_tro (C := cfg) (clone2_ret (ts.map fun r => [il r]) (by simp) (by simpa using hf.1)) rfl rfl rfl s k
  obtain ⟨ck, v, hl, h⟩ := cb_loop ts parts answers hp hf ha 1 1 3
  simp [gl, ptl, il] at h
  simp only [il, List.length_map] at hc
  rw [retT_r, runL_pf (fn := f35) rfl rfl]
  simp [gl, ptl, il, hc, h, resOf, resOf1, treeOf, List.take_of_length_le, hl]
end Go.Proofs.YtccnadleegcobaaGreat.Pv
end

section
/- The fixed answer of the laws through the layers: model.Forward, once. -/
namespace Go.Proofs.YtccnadleegcobaaGreat.Pv
open Go Go.Pev

def lvX : Exp := ⟨[[65536]], [[65536]]⟩
def lvL : Lay := ⟨[[65536]], [lvX], 1⟩
def lvM : Mod := ⟨1, [lvL]⟩
theorem lv_parts : partsP lvL [[7]] = [⟨0, 0, 0, 65536⟩] := by decide +kernel
theorem lv_run : (if exRight lvX ([7] : List Int).length then runP lvX [7] else []) = [7] := by decide +kernel
theorem lv_comb : combP [[7]] [⟨0, 0, 0, 65536⟩] [[7]] = [[14]] := by decide +kernel
theorem lv_right : modRight lvM = true := by decide +kernel
theorem lv_tok : tokRight lvM [[7]] = true := by decide +kernel
theorem lv_ex : exRight lvX ([7] : List Int).length = true := by decide +kernel
theorem lv_one : Few [[65536]] := ⟨by simp, by simp⟩
theorem lv_few : FewM lvM := ⟨by simp [lvM], fun l hl => by
  simp only [lvM, List.mem_singleton] at hl
  subst hl
  exact ⟨lv_one, by simp [lvL], fun x hx => by
    simp only [lvL, List.mem_singleton] at hx
    subst hx
    exact ⟨lv_one, lv_one⟩⟩⟩
set_option maxHeartbeats 2000000 in
theorem lives_ret : RetT cfg 6 [] (bv true) := by
  have hf : RetT cfg 16 [modV lvM, .t (gl [[7]])] (.tu [.t (gl [[14]]), iv 0]) := by
    have h1 := fun s k => callEv_tr (C := cfg) (mod_ret lvM lv_few) rfl rfl rfl s k
    have h2 := fun s k => callEv_tr (C := cfg) (tok_ret lvM [[7]] ⟨by simp, by simp⟩) rfl rfl rfl s k
    have h3 := fun s k => callEv_tr (C := cfg) (parts_ret lvL [[7]] lv_one (by simp)) rfl rfl rfl s k
    have h4 := fun hp => callQ_tr (C := cfg) (run_ret lvX [7] lv_one lv_one) rfl hp
    have h5 : ∀ (s : St) (k k9 : Key), s.hp.get k9 = some (.row 38 1 [[.l [[.i .i64 7]]]] false) → callEv cfg (runL cfg) 35 [.t (gl [[7]]), .t (ptl [⟨0, 0, 0, 65536⟩]), .ow k9 1 0 1] s k = some (.t (gl [[14]]), freezeAll s.hp [k9], s.ck) := by
      intro s k k9 hg
      have hc := comb_ret [[7]] [⟨0, 0, 0, 65536⟩] [[7]] (by simp) ⟨by simp, by simp⟩ ⟨by simp, by simp⟩
      rw [lv_comb] at hc
      have hk := callEv_k (C := cfg) (f := 35) (args := [.t (gl [[7]]), .t (ptl [⟨0, 0, 0, 65536⟩]), .ow k9 1 0 1]) (s := s) (k := k) rfl rfl (by simp [puresOf, pureOf, treeOf, hg, gl]) hc rfl
      rw [hk]; rfl
    rw [lv_right] at h1
    rw [lv_tok] at h2
    rw [lv_parts] at h3
    rw [lv_run, lv_ex] at h4
    simp only [modV, lvM, laysT, lvL, lvX, layT, layV, exT, exV, gl, il, ptl, ptT, iv, bv, List.map_cons, List.map_nil] at h1 h2 h3 h4 h5
    have hw : IntKind.i64.wrap (0 + 1) = 1 := rfl
    rw [retT_r, runL_pf (fn := f16) rfl rfl]
    simp [modV, lvM, laysT, lvL, lvX, layT, exT, gl, h1, h2, h3, h4, h5, hw, wrap_id, over, rowsOf, treesC, treesOf, treeOf, keysOfs, freezeAll, freeze1, app, elsOf, resOf, resOfs, resOf1, evL_loop, f16l1e, f16l0e]
  have hc := fun s k => callEv_tr (C := cfg) hf rfl rfl rfl s k
  simp only [modV, lvM, laysT, lvL, lvX, layT, layV, exT, exV, gl, il, iv, bv, List.map_cons, List.map_nil] at hc
  refine RetT.of ?_
  rw [runL_pf (fn := f6) rfl rfl]
  simp [hc, over, rowsOf, treesC, treesOf, treeOf, keysOfs, freezeAll, buildV]
end Go.Proofs.YtccnadleegcobaaGreat.Pv
end

section
/- Texts in pieces, plainly. -/
namespace Go.Proofs.YtccnadleegcobaaGreat.Pv
open Go Go.Pev

/-- A slice of strings; of bools. -/
def sl (l : List (List UInt8)) : T := .l (l.map fun y => [.s y])
def cutN : Nat → Nat → List UInt8 → List (List UInt8)
  | 0, _, _ => []
  | f + 1, k, s => if s = [] then [] else s.take k :: cutN f k (s.drop k)
def cut (k : Nat) (s : List UInt8) : List (List UInt8) := cutN s.length k s
theorem cutN_nil (f k : Nat) : cutN f k [] = [] := by cases f <;> simp [cutN]
theorem cutN_fuel {k : Nat} (hk : 1 ≤ k) : ∀ (f g : Nat) (s : List UInt8), s.length ≤ f → s.length ≤ g → cutN f k s = cutN g k s
  | 0, g, s, h1, _ => by
    obtain rfl : s = [] := List.eq_nil_of_length_eq_zero (by omega)
    rw [cutN_nil, cutN_nil]
  | f + 1, 0, s, _, h2 => by
    obtain rfl : s = [] := List.eq_nil_of_length_eq_zero (by omega)
    rw [cutN_nil, cutN_nil]
  | f + 1, g + 1, s, h1, h2 => by
    simp only [cutN]
    by_cases h : s = []
    · rw [if_pos h, if_pos h]
    · rw [if_neg h, if_neg h]
      have : 0 < s.length := List.length_pos_iff.2 h
      rw [cutN_fuel hk f g (s.drop k) (by rw [List.length_drop]; omega) (by rw [List.length_drop]; omega)]
theorem cut_nil (k : Nat) : cut k [] = [] := rfl
theorem cut_cons {k : Nat} (hk : 1 ≤ k) {s : List UInt8} (hs : s ≠ []) : cut k s = s.take k :: cut k (s.drop k) := by
  have hp : 0 < s.length := List.length_pos_iff.2 hs
  obtain ⟨f, hf⟩ : ∃ f, s.length = f + 1 := ⟨s.length - 1, by omega⟩
  unfold cut
  rw [hf]
  simp only [cutN, if_neg hs]
  rw [cutN_fuel hk f (s.drop k).length (s.drop k) (by rw [List.length_drop]; omega) (Nat.le_refl _)]
/-- By the pieces. -/
theorem cut_ind {k : Nat} (hk : 1 ≤ k) {P : List UInt8 → Prop} (h0 : P []) (h1 : ∀ s, s ≠ [] → P (s.drop k) → P s) (s : List UInt8) : P s := by
  have : ∀ (n : Nat) (s : List UInt8), s.length ≤ n → P s := by
    intro n
    induction n with
    | zero => intro s hs; rw [List.eq_nil_of_length_eq_zero (by omega : s.length = 0)]; exact h0
    | succ n ih =>
      intro s hs
      by_cases h : s = []
      · rw [h]; exact h0
      · exact h1 s h (ih _ (by have : 0 < s.length := List.length_pos_iff.2 h; rw [List.length_drop]; omega))
  exact this s.length s (Nat.le_refl _)
theorem cut_flatten {k : Nat} (hk : 1 ≤ k) (s : List UInt8) : (cut k s).flatten = s := by
  refine cut_ind hk (P := fun s => (cut k s).flatten = s) rfl (fun s hs ih => ?_) s
  rw [cut_cons hk hs, List.flatten_cons, ih, List.take_append_drop]
theorem cut_len {k : Nat} (hk : 1 ≤ k) (s : List UInt8) : (cut k s).length = (s.length + k - 1) / k := by
  refine cut_ind hk (P := fun s => (cut k s).length = (s.length + k - 1) / k) ?_ (fun s hs ih => ?_) s
  · rw [cut_nil]; simp only [List.length_nil]; rw [Nat.div_eq_of_lt (by omega)]
  · rw [cut_cons hk hs, List.length_cons, ih, List.length_drop]
    have hp : 0 < s.length := List.length_pos_iff.2 hs
    by_cases h : s.length ≤ k
    · have h1 : (s.length + k - 1) / k = 1 := by
        rw [show s.length + k - 1 = (s.length - 1) + k by omega, Nat.add_div_right _ (by omega), Nat.div_eq_of_lt (by omega)]
      rw [show s.length - k + k - 1 = k - 1 by omega, Nat.div_eq_of_lt (by omega), h1]
    · rw [show s.length + k - 1 = (s.length - k + k - 1) + k by omega, Nat.add_div_right _ (by omega)]
theorem cut_get {k : Nat} (hk : 1 ≤ k) (s : List UInt8) : ∀ i, (hi : i < (cut k s).length) → 1 ≤ (cut k s)[i].length ∧ (cut k s)[i].length ≤ k ∧ (i + 1 < (cut k s).length → (cut k s)[i].length = k) := by
  refine cut_ind hk (P := fun s => ∀ i, (hi : i < (cut k s).length) → 1 ≤ (cut k s)[i].length ∧ (cut k s)[i].length ≤ k ∧ (i + 1 < (cut k s).length → (cut k s)[i].length = k)) ?_ (fun s hs ih => ?_) s
  · intro i hi; simp [cut_nil] at hi
  · have hp : 0 < s.length := List.length_pos_iff.2 hs
    rw [cut_cons hk hs]
    intro i hi
    cases i with
    | zero =>
      simp only [List.getElem_cons_zero, List.length_take, List.length_cons]
      refine ⟨by omega, by omega, fun h => ?_⟩
      have h1 : 0 < (cut k (s.drop k)).length := by omega
      have h2 : s.drop k ≠ [] := fun e => by rw [e] at h1; simp [cut_nil] at h1
      have := List.length_pos_iff.2 h2
      rw [List.length_drop] at this
      omega
    | succ i =>
      simp only [List.getElem_cons_succ, List.length_cons]
      obtain ⟨a, b, c⟩ := ih i (by simpa using hi)
      exact ⟨a, b, fun h => c (by omega)⟩
theorem join_nil_eq (l : List (List UInt8)) : Lib.join l [] = l.flatten := by
  show ([] : List UInt8).intercalate l = _
  induction l with
  | nil => rfl
  | cons a l ih =>
    cases l with
    | nil => simp [List.intercalate, List.intersperse]
    | cons b l =>
      simp only [List.intercalate, List.intersperse] at ih ⊢
      simp only [List.flatten_cons, List.nil_append] at ih ⊢
      rw [ih]
end Go.Proofs.YtccnadleegcobaaGreat.Pv
end
