/- What port.four, Pack, Unpack and the document's tell. -/
import Derived.Test.YtccnadleegcobaaPPort
import Derived.Test.YtccnadleegcobaaSOver
set_option linter.unusedVariables false
set_option linter.unusedSimpArgs false
namespace Go.Proofs.Ytccnadleegcobaa.Pv
open Go Go.Pev

theorem w8 (n : Nat) : IntKind.u8.wrap (n : Int) = ((n % 256 : Nat) : Int) := by rw [IntKind.wrap_u8]; omega
theorem shr_at (n i : Nat) (hi : i ≤ 64) : bin .shr (.t (.i .i64 (n : Int))) (.t (.i .u64 (i : Int))) = some (.t (.i .i64 ((n / 2 ^ i : Nat) : Int))) := by
  rw [bin_shr]
  show (if (i : Int) < 0 then none else some (V.t (.i .i64 (Int.fdiv (n : Int) (2 ^ (min (i : Int).toNat 64)))))) = _
  rw [if_neg (by omega), Int.toNat_natCast, Nat.min_eq_left hi, Int.fdiv_eq_ediv_of_nonneg _ (Int.pow_nonneg (by decide))]
  congr 4
theorem shl_at (n i : Nat) (hi : i ≤ 64) (h : n * 2 ^ i < 9223372036854775808) : bin .shl (.t (.i .i64 (n : Int))) (.t (.i .u64 (i : Int))) = some (.t (.i .i64 ((n * 2 ^ i : Nat) : Int))) := by
  rw [bin_shl]
  show (if (i : Int) < 0 then none else some (V.t (.i .i64 (IntKind.i64.wrap ((n : Int) * 2 ^ (min (i : Int).toNat 64)))))) = _
  rw [if_neg (by omega), Int.toNat_natCast, Nat.min_eq_left hi]
  have e : (n : Int) * 2 ^ i = ((n * 2 ^ i : Nat) : Int) := by rw [Int.natCast_mul, Int.natCast_pow]; rfl
  rw [e, wrap_id (by omega) (by omega)]
theorem or_at (a b i : Nat) (ha : a < 2 ^ i) (h : a + b * 2 ^ i < 9223372036854775808) : bin .or (.t (.i .i64 (a : Int))) (.t (.i .i64 ((b * 2 ^ i : Nat) : Int))) = some (.t (.i .i64 ((a + b * 2 ^ i : Nat) : Int))) := by
  rw [bin_or]
  show some (V.t (.i .i64 (IntKind.i64.wrap ((BitVec.ofInt 64 (a : Int) ||| BitVec.ofInt 64 ((b * 2 ^ i : Nat) : Int)).toNat : Int)))) = _
  have e : (BitVec.ofInt 64 (a : Int) ||| BitVec.ofInt 64 ((b * 2 ^ i : Nat) : Int)).toNat = a + b * 2 ^ i := by
    rw [show BitVec.ofInt 64 (a : Int) = BitVec.ofNat 64 a from BitVec.ofInt_natCast 64 a, show BitVec.ofInt 64 ((b * 2 ^ i : Nat) : Int) = BitVec.ofNat 64 (b * 2 ^ i) from BitVec.ofInt_natCast 64 _, BitVec.toNat_or, BitVec.toNat_ofNat, BitVec.toNat_ofNat, Nat.mod_eq_of_lt (by omega), Nat.mod_eq_of_lt (by omega)]
    have := Nat.shiftLeft_add_eq_or_of_lt ha b
    rw [Nat.shiftLeft_eq] at this
    rw [Nat.or_comm, ← this, Nat.add_comm]
  rw [e, wrap_id (by omega) (by omega)]

theorem shl_at' {n i m : Nat} (hm : m = n * 2 ^ i) (hi : i ≤ 64) (h : m < 9223372036854775808) : bin .shl (.t (.i .i64 (n : Int))) (.t (.i .u64 (i : Int))) = some (.t (.i .i64 (m : Int))) := by
  subst hm; exact shl_at n i hi h
theorem or_at' {a b i m n : Nat} (hm : m = b * 2 ^ i) (hn : n = a + m) (ha : a < 2 ^ i) (h : n < 9223372036854775808) : bin .or (.t (.i .i64 (a : Int))) (.t (.i .i64 (m : Int))) = some (.t (.i .i64 (n : Int))) := by
  subst hm; subst hn; exact or_at a b i ha h

theorem four_ret (n : Nat) (h : n < 4294967296) : RetT cfg 18 [iv n] (.t (.s (fourN n))) := by
  refine RetT.of ?_
  rw [runL_pf (fn := f18) rfl rfl]
  have s1 := shr_at n 8 (by omega)
  have s2 := shr_at n 16 (by omega)
  have s3 := shr_at n 24 (by omega)
  have w0 := w8 n
  have w1 := w8 (n / 2 ^ 8)
  have w2 := w8 (n / 2 ^ 16)
  have w3 := w8 (n / 2 ^ 24)
  unfold fourN
  rw [show n / 256 = n / 2 ^ 8 from rfl, show n / 65536 = n / 2 ^ 16 from rfl, show n / 16777216 = n / 2 ^ 24 from rfl]
  generalize n / 2 ^ 8 = a1 at *
  generalize n / 2 ^ 16 = a2 at *
  generalize n / 2 ^ 24 = a3 at *
  generalize a1 % 256 = b1 at *
  generalize a2 % 256 = b2 at *
  generalize a3 % 256 = b3 at *
  generalize n % 256 = b0 at *
  have e8 : ((8 : Nat) : Int) = 8 := rfl
  have e16 : ((16 : Nat) : Int) = 16 := rfl
  have e24 : ((24 : Nat) : Int) = 24 := rfl
  rw [e8] at s1
  rw [e16] at s2
  rw [e24] at s3
  simp [s1, s2, s3, w0, w1, w2, w3, -bin_shr, rowsOf, keysOfs, treesC, treesOf, treeOf, freezeAll, elsOf, u8s]

def packR (kind : UInt8) (seq : Int) (text : List UInt8) : List UInt8 := if packOk kind seq text then packB kind seq.toNat text else []
theorem k65 (kind : UInt8) : ((kind.toNat : Int) == 65) = decide (kind = 65) := by
  rw [Bool.eq_iff_iff]; simp only [beq_iff_eq, decide_eq_true_eq]
  constructor
  · intro h; exact UInt8.toNat_inj.1 (by have : (65 : UInt8).toNat = 65 := rfl; omega)
  · rintro rfl; rfl
theorem k68 (kind : UInt8) : ((kind.toNat : Int) == 68) = decide (kind = 68) := by
  rw [Bool.eq_iff_iff]; simp only [beq_iff_eq, decide_eq_true_eq]
  constructor
  · intro h; exact UInt8.toNat_inj.1 (by have : (68 : UInt8).toNat = 68 := rfl; omega)
  · rintro rfl; rfl

set_option maxHeartbeats 4000000 in
theorem pack_ret (kind : UInt8) (seq : Int) (text : List UInt8) (hl : text.length ≤ 900000) : RetT cfg 13 [.t (.i .u8 kind.toNat), iv seq, .t (.s text)] (.tu [.t (.s (packR kind seq text)), iv (if packOk kind seq text then 0 else 1)]) := by
  refine RetT.of_tu (x := [.s (packR kind seq text), .i .i64 (if packOk kind seq text then 0 else 1)]) ?_
  rw [runL_pf (fn := f13) rfl rfl]
  have e65 := k65 kind
  have e68 := k68 kind
  have good : packOk kind seq text → ∃ n : Nat, seq = n ∧ n ≤ 2147483647 ∧ (∀ hp, callQ (runL cfg) 18 [.t (.i .i64 seq)] hp = some (.t (.s (fourN n)))) ∧ (∀ st k, callEv cfg (runL cfg) 19 [.t (.s ([kind] ++ fourN n ++ text))] st k = some (.t (.i .i64 (crcN ([kind] ++ fourN n ++ text))), st.hp, st.ck)) ∧ (∀ st k, callEv cfg (runL cfg) 18 [.t (.i .i64 (crcN ([kind] ++ fourN n ++ text)))] st k = some (.t (.s (fourN (crcN ([kind] ++ fourN n ++ text)))), st.hp, st.ck)) := by
    intro h
    obtain ⟨n, rfl⟩ : ∃ n : Nat, seq = n := ⟨seq.toNat, by have := h.2; omega⟩
    have h2 := h.2.2
    refine ⟨n, rfl, by omega, fun hp => ?_, fun st k => ?_, fun st k => ?_⟩
    · exact callQ_tr (C := cfg) (four_ret n (by omega)) rfl hp
    · exact callEv_tr (C := cfg) (crc_ret ([kind] ++ fourN n ++ text) (by simp [fourN_len]; omega)) rfl rfl rfl st k
    · exact callEv_tr (C := cfg) (four_ret (crcN ([kind] ++ fourN n ++ text)) (crcN_lt _)) rfl rfl rfl st k
  have fin : packOk kind seq text → ∀ n : Nat, seq = n → packR kind seq text = ([kind] ++ fourN n ++ text) ++ fourN (crcN ([kind] ++ fourN n ++ text)) := by
    intro h n hn
    unfold packR
    rw [if_pos h, hn]
    rfl
  by_cases h65 : kind = 65
  · subst h65
    by_cases ht : text = []
    · subst ht
      by_cases h1 : seq < 0
      · have hno : ¬ packOk 65 seq [] := fun h => by have := h.2.1; omega
        simp [packR, hno, h1, (show ((65 : UInt8).toNat : Int) = 65 from rfl)]
      · have d1 : decide (seq < 0) = false := decide_eq_false h1
        by_cases h2 : 2147483647 < seq
        · have hno : ¬ packOk 65 seq [] := fun h => by have := h.2.2; omega
          simp [packR, hno, d1, h2, (show ((65 : UInt8).toNat : Int) = 65 from rfl)]
        · have d2 : decide (2147483647 < seq) = false := decide_eq_false h2
          have hyes : packOk 65 seq [] := ⟨.inr ⟨rfl, rfl⟩, by omega, by omega⟩
          obtain ⟨n, hn, hn2, g1, g2, g3⟩ := good hyes
          have hf := fin hyes n hn
          rw [hf, if_pos hyes]
          have l4 := fourN_len n
          have l4' := fourN_len (crcN ([65] ++ fourN n ++ []))
          generalize hcr : crcN ([65] ++ fourN n ++ []) = cr at *
          generalize hf4 : fourN n = f4 at *
          generalize hfc : fourN cr = fc at *
          simp at g2
          have b1 : ¬ (9223372036854775807 : Int) < 1 + (f4.length : Int) := by omega
          have b2 : ¬ (9223372036854775807 : Int) < 1 + (f4.length : Int) + (fc.length : Int) := by omega
          simp [d1, d2, (show ((65 : UInt8).toNat : Int) = 65 from rfl), g1, g2, g3, rowsOf, keysOfs, treesC, treesOf, treeOf, freezeAll, elsOf, u8s, i64max, l4, l4', b1, b2]
          try omega
    · have hno : ¬ packOk 65 seq text := fun h => by
        rcases h.1 with q | ⟨_, q⟩
        · exact absurd q (by decide)
        · exact ht q
      have dt : (text != []) = true := by simpa using ht
      have hie : text.isEmpty = false := by
        cases text with
        | nil => exact absurd rfl ht
        | cons a b => rfl
      simp [packR, hno, ht, dt, hie, (show ((65 : UInt8).toNat : Int) = 65 from rfl)]
  · have d65 : ((kind.toNat : Int) == 65) = false := by rw [e65]; exact decide_eq_false h65
    by_cases h68 : kind = 68
    · subst h68
      by_cases h1 : seq < 0
      · have hno : ¬ packOk 68 seq text := fun h => by have := h.2.1; omega
        simp [packR, hno, h1, (show ((68 : UInt8).toNat : Int) = 68 from rfl)]
      · have d1 : decide (seq < 0) = false := decide_eq_false h1
        by_cases h2 : 2147483647 < seq
        · have hno : ¬ packOk 68 seq text := fun h => by have := h.2.2; omega
          simp [packR, hno, d1, h2, (show ((68 : UInt8).toNat : Int) = 68 from rfl)]
        · have d2 : decide (2147483647 < seq) = false := decide_eq_false h2
          have hyes : packOk 68 seq text := ⟨.inl rfl, by omega, by omega⟩
          obtain ⟨n, hn, hn2, g1, g2, g3⟩ := good hyes
          have hf := fin hyes n hn
          rw [hf, if_pos hyes]
          have l4 := fourN_len n
          have l4' := fourN_len (crcN ([68] ++ fourN n ++ text))
          generalize hcr : crcN ([68] ++ fourN n ++ text) = cr at *
          generalize hf4 : fourN n = f4 at *
          generalize hfc : fourN cr = fc at *
          simp at g2
          have b1 : ¬ (9223372036854775807 : Int) < 1 + (f4.length : Int) := by omega
          have b2 : ¬ (9223372036854775807 : Int) < 1 + (f4.length : Int) + (text.length : Int) := by omega
          have b3 : ¬ (9223372036854775807 : Int) < 5 + (text.length : Int) := by omega
          have b4 : ¬ (9223372036854775807 : Int) < 5 + (text.length : Int) + 4 := by omega
          have b5 : ¬ (9223372036854775807 : Int) < (text.length : Int) + 4 + 1 + 4 := by omega
          have b6 : ¬ (9223372036854775807 : Int) < 4 + (text.length : Int) + 1 + 4 := by omega
          simp [d1, d2, (show ((68 : UInt8).toNat : Int) = 68 from rfl), g1, g2, g3, rowsOf, keysOfs, treesC, treesOf, treeOf, freezeAll, elsOf, u8s, i64max, l4, l4', b1, b2, b3, b4, b5, b6]
          try omega
    · have hno : ¬ packOk kind seq text := fun h => by
        rcases h.1 with q | ⟨q, _⟩
        · exact h68 q
        · exact h65 q
      have d68 : ((kind.toNat : Int) == 68) = false := by rw [e68]; exact decide_eq_false h68
      generalize hkn : kind.toNat = kn at *
      simp [packR, hno, d65, d68]
end Go.Proofs.Ytccnadleegcobaa.Pv
