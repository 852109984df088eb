/- What the document's Pack, and both Unpack tell. -/
import Derived.Test.YtfclnkhhabiheaaSPort1
set_option linter.unusedVariables false
set_option linter.unusedSimpArgs false
namespace Go.Proofs.Ytfclnkhhabiheaa.Pv
open Go Go.Pev

set_option maxHeartbeats 4000000 in
theorem rpack_ret (kind : UInt8) (seq : Int) (text : List UInt8) (hl : text.length ≤ 900000) : RetT cfg 11 [.t (.i .u8 kind.toNat), iv seq, .t (.s text)] (.tu [.t (.s (packR kind seq text)), bv (decide (packOk kind seq text))]) := by
  refine RetT.of_tu (x := [.s (packR kind seq text), .b (decide (packOk kind seq text))]) ?_
  rw [runL_pf (fn := f11) rfl rfl]
  have e65 := k65 kind
  have e68 := k68 kind
  by_cases h65 : kind = 65
  · subst h65
    by_cases h1 : seq < 0
    · have hno : ¬ packOk 65 seq text := fun h => by have := h.2.1; omega
      simp [packR, hno, h1, (show ((65 : UInt8).toNat : Int) = 65 from rfl)]
    have d1 : decide (seq < 0) = false := decide_eq_false h1
    by_cases h2 : 2147483647 < seq
    · have hno : ¬ packOk 65 seq text := fun h => by have := h.2.2; omega
      simp [packR, hno, d1, h2, (show ((65 : UInt8).toNat : Int) = 65 from rfl)]
    have d2 : decide (2147483647 < seq) = false := decide_eq_false h2
    by_cases ht : text = []
    · subst ht
      have hyes : packOk 65 seq [] := ⟨.inr ⟨rfl, rfl⟩, by omega, by omega⟩
      obtain ⟨n, rfl⟩ : ∃ n : Nat, seq = n := ⟨seq.toNat, by omega⟩
      have g1 := fun hp => callQ_tr (C := cfg) (rfour_ret n (by omega)) rfl hp
      have g2 := fun st k => callEv_tr (C := cfg) (rsum_ret ([65] ++ fourN n ++ []) (by simp [fourN_len])) rfl rfl rfl st k
      have g3 := fun st k => callEv_tr (C := cfg) (rfour_ret (crcN ([65] ++ fourN n ++ [])) (crcN_lt _)) rfl rfl rfl st k
      have hf : packR 65 n [] = ([65] ++ fourN n ++ []) ++ fourN (crcN ([65] ++ fourN n ++ [])) := by
        unfold packR; rw [if_pos hyes]; rfl
      rw [hf, decide_eq_true hyes]
      rw [crcI_N] at g2
      have l4 := fourN_len n
      have l4' := fourN_len (crcN ([65] ++ fourN n ++ []))
      generalize hcr : crcN ([65] ++ fourN n ++ []) = cr at *
      generalize hf4 : fourN n = f4 at *
      generalize hfc : fourN cr = fc at *
      simp only [iv] at g1 g2 g3
      simp at g2
      have d2' : decide (2147483647 < n) = false := decide_eq_false (by omega)
      simp [d1, d2, d2', (show ((65 : UInt8).toNat : Int) = 65 from rfl), g1, g2, g3, rowsOf, keysOfs, treesC, treesOf, treeOf, freezeAll, elsOf, u8s, i64max, l4, l4']
    · have hno : ¬ packOk 65 seq text := fun h => by
        rcases h.1 with q | ⟨_, q⟩
        · exact absurd q (by decide)
        · exact ht q
      have hp : 0 < text.length := List.length_pos_iff.2 ht
      simp [packR, hno, d1, d2, hp, (show ((65 : UInt8).toNat : Int) = 65 from rfl)]
  have d65 : ((kind.toNat : Int) == 65) = false := by rw [e65]; exact decide_eq_false h65
  have d65' : ((kind.toNat : Int) != 65) = true := by simp only [bne, d65]; rfl
  by_cases h68 : kind = 68
  · subst h68
    by_cases h1 : seq < 0
    · have hno : ¬ packOk 68 seq text := fun h => by have := h.2.1; omega
      simp [packR, hno, h1, (show ((68 : UInt8).toNat : Int) = 68 from rfl)]
    have d1 : decide (seq < 0) = false := decide_eq_false h1
    by_cases h2 : 2147483647 < seq
    · have hno : ¬ packOk 68 seq text := fun h => by have := h.2.2; omega
      simp [packR, hno, d1, h2, (show ((68 : UInt8).toNat : Int) = 68 from rfl)]
    have d2 : decide (2147483647 < seq) = false := decide_eq_false h2
    have hyes : packOk 68 seq text := ⟨.inl rfl, by omega, by omega⟩
    obtain ⟨n, rfl⟩ : ∃ n : Nat, seq = n := ⟨seq.toNat, by omega⟩
    have g1 := fun hp => callQ_tr (C := cfg) (rfour_ret n (by omega)) rfl hp
    have g2 := fun st k => callEv_tr (C := cfg) (rsum_ret ([68] ++ fourN n ++ text) (by simp [fourN_len]; omega)) rfl rfl rfl st k
    have g3 := fun st k => callEv_tr (C := cfg) (rfour_ret (crcN ([68] ++ fourN n ++ text)) (crcN_lt _)) rfl rfl rfl st k
    have hf : packR 68 n text = ([68] ++ fourN n ++ text) ++ fourN (crcN ([68] ++ fourN n ++ text)) := by
      unfold packR; rw [if_pos hyes]; rfl
    rw [hf, decide_eq_true hyes]
    rw [crcI_N] at g2
    have l4 := fourN_len n
    have l4' := fourN_len (crcN ([68] ++ fourN n ++ text))
    generalize hcr : crcN ([68] ++ fourN n ++ text) = cr at *
    generalize hf4 : fourN n = f4 at *
    generalize hfc : fourN cr = fc at *
    simp only [iv] at g1 g2 g3
    simp at g2
    have d2' : decide (2147483647 < n) = false := decide_eq_false (by omega)
    have b3 : ¬ (9223372036854775807 : Int) < 5 + (text.length : Int) := by omega
    have b6 : ¬ (9223372036854775807 : Int) < 4 + (text.length : Int) + 1 + 4 := by omega
    simp [d1, d2, d2', (show ((68 : UInt8).toNat : Int) = 68 from rfl), g1, g2, g3, rowsOf, keysOfs, treesC, treesOf, treeOf, freezeAll, elsOf, u8s, i64max, l4, l4', b3, b6]
  · have hno : ¬ packOk kind seq text := fun h => by
      rcases h.1 with q | ⟨q, _⟩
      · exact h68 q
      · exact h65 q
    have d68 : ((kind.toNat : Int) == 68) = false := by rw [e68]; exact decide_eq_false h68
    have d68' : ((kind.toNat : Int) != 68) = true := by simp only [bne, d68]; rfl
    generalize hkn : kind.toNat = kn at *
    simp [packR, hno, d65, d68, d65', d68']

def unpV (r : UInt8 × Int × List UInt8 × Int) : List T := [.i .u8 r.1.toNat, .i .i64 r.2.1, .s r.2.2.1, .i .i64 r.2.2.2]

set_option maxHeartbeats 4000000 in
theorem unpack_ret (s : List UInt8) (hl : s.length ≤ 100000) : RetT cfg 12 [.t (.s s)] (.tu ((unpV (unpackP s)).map .t)) := by
  refine RetT.of_tu ?_
  rw [runL_pf (fn := f12) rfl rfl]
  unfold unpackP
  by_cases h9 : s.length < 9
  · rw [if_pos h9]
    have d9 : decide ((s.length : Int) < 9) = true := decide_eq_true (by omega)
    simp [d9, unpV]
  have d9 : decide ((s.length : Int) < 9) = false := decide_eq_false (by omega)
  rw [if_neg h9]
  have hps := fun hc => pack_is (s := s) (by omega) hc
  obtain ⟨e, he⟩ : ∃ e : Nat, e = s.length - 4 := ⟨_, rfl⟩
  have hw : IntKind.i64.wrap ((s.length : Int) - 4) = (e : Int) := by rw [wrap_id (by omega) (by omega)]; omega
  have hel : e ≤ s.length := by omega
  have h5e : 5 ≤ e := by omega
  have h5i : (5 : Int) ≤ (e : Int) := by omega
  have c1 := fun hp => callQ_tr (C := cfg) (crc_ret (s.take e) (by rw [List.length_take]; omega)) rfl hp
  have c2 := fun hp => callQ_tr (C := cfg) (four_ret (crcN (s.take e)) (crcN_lt _)) rfl hp
  rw [crcI_N] at c1
  rw [← he] at hps ⊢
  simp only [iv] at c1 c2
  have htt : (s.take s.length).drop e = s.drop e := by rw [List.take_length]
  by_cases hc : s.drop e = fourN (crcN (s.take e))
  case neg =>
    rw [if_pos hc]
    have dc : (s.drop e == fourN (crcN (s.take e))) = false := by simpa using hc
    simp [d9, hw, hel, c1, c2, dc, htt, unpV]
  rw [if_neg (by simpa using hc)]
  have hps := hps hc
  have dc : (s.drop e == fourN (crcN (s.take e))) = true := by simpa using hc
  obtain ⟨x0, hx0⟩ : ∃ x, s[0]? = some x := ⟨_, List.getElem?_eq_getElem (by omega)⟩
  obtain ⟨x1, hx1⟩ : ∃ x, s[1]? = some x := ⟨_, List.getElem?_eq_getElem (by omega)⟩
  obtain ⟨x2, hx2⟩ : ∃ x, s[2]? = some x := ⟨_, List.getElem?_eq_getElem (by omega)⟩
  obtain ⟨x3, hx3⟩ : ∃ x, s[3]? = some x := ⟨_, List.getElem?_eq_getElem (by omega)⟩
  obtain ⟨x4, hx4⟩ : ∃ x, s[4]? = some x := ⟨_, List.getElem?_eq_getElem (by omega)⟩
  have gd0 : s.getD 0 0 = x0 := by rw [List.getD_eq_getElem?_getD, hx0]; rfl
  have gd1 : s.getD 1 0 = x1 := by rw [List.getD_eq_getElem?_getD, hx1]; rfl
  have gd2 : s.getD 2 0 = x2 := by rw [List.getD_eq_getElem?_getD, hx2]; rfl
  have gd3 : s.getD 3 0 = x3 := by rw [List.getD_eq_getElem?_getD, hx3]; rfl
  have gd4 : s.getD 4 0 = x4 := by rw [List.getD_eq_getElem?_getD, hx4]; rfl
  rw [gd0, gd1, gd2, gd3, gd4] at hps ⊢
  have q1 := x1.toNat_lt
  have q2 := x2.toNat_lt
  have q3 := x3.toNat_lt
  have q4 := x4.toNat_lt
  obtain ⟨m2, hm2⟩ : ∃ m : Nat, m = 256 * x2.toNat := ⟨_, rfl⟩
  obtain ⟨m3, hm3⟩ : ∃ m : Nat, m = 65536 * x3.toNat := ⟨_, rfl⟩
  obtain ⟨m4, hm4⟩ : ∃ m : Nat, m = 16777216 * x4.toNat := ⟨_, rfl⟩
  obtain ⟨n2, hn2⟩ : ∃ m : Nat, m = x1.toNat + m2 := ⟨_, rfl⟩
  obtain ⟨n3, hn3⟩ : ∃ m : Nat, m = n2 + m3 := ⟨_, rfl⟩
  have hD : fourD x1 x2 x3 x4 = n3 + m4 := by unfold fourD; omega
  have f2 := shl_at' (n := x2.toNat) (i := 8) (m := m2) (by omega) (by omega) (by omega)
  have f3 := shl_at' (n := x3.toNat) (i := 16) (m := m3) (by omega) (by omega) (by omega)
  have f4 := shl_at' (n := x4.toNat) (i := 24) (m := m4) (by omega) (by omega) (by omega)
  have g2 := or_at' (a := x1.toNat) (b := x2.toNat) (i := 8) (m := m2) (n := n2) (by omega) (by omega) (by omega) (by omega)
  have g3 := or_at' (a := n2) (b := x3.toNat) (i := 16) (m := m3) (n := n3) (by omega) (by omega) (by omega) (by omega)
  have g4 := or_at' (a := n3) (b := x4.toNat) (i := 24) (m := m4) (n := fourD x1 x2 x3 x4) (by omega) (by omega) (by omega) (by omega)
  have v1 : IntKind.i64.wrap (x1.toNat : Int) = (x1.toNat : Int) := wrap_id (by omega) (by omega)
  have v2 : IntKind.i64.wrap (x2.toNat : Int) = (x2.toNat : Int) := wrap_id (by omega) (by omega)
  have v3 : IntKind.i64.wrap (x3.toNat : Int) = (x3.toNat : Int) := wrap_id (by omega) (by omega)
  have v4 : IntKind.i64.wrap (x4.toNat : Int) = (x4.toNat : Int) := wrap_id (by omega) (by omega)
  have c3 := fun hp => callQ_tr (C := cfg) (pack_ret x0 (fourD x1 x2 x3 x4 : Nat) ((s.take e).drop 5) (by rw [List.length_drop, List.length_take]; omega)) rfl hp
  have hpr : packOk x0 (fourD x1 x2 x3 x4 : Nat) ((s.take e).drop 5) → packR x0 (fourD x1 x2 x3 x4 : Nat) ((s.take e).drop 5) = s := fun h => by
    unfold packR; rw [if_pos h]; exact hps
  generalize fourD x1 x2 x3 x4 = D at *
  generalize hu : (s.take e).drop 5 = u at *
  have e8 : ((8 : Nat) : Int) = 8 := rfl
  have e16 : ((16 : Nat) : Int) = 16 := rfl
  have e24 : ((24 : Nat) : Int) = 24 := rfl
  rw [e8] at f2
  rw [e16] at f3
  rw [e24] at f4
  simp only [iv] at c3
  by_cases hok : packOk x0 (D : Int) u
  · rw [if_pos hok] at c3 ⊢
    rw [hpr hok] at c3
    simp [d9, hw, hel, h5e, h5i, c1, c2, dc, htt, unpV, hx0, hx1, hx2, hx3, hx4, v1, v2, v3, v4, f2, f3, f4, g2, g3, g4, hu  , c3, -bin_shl, -bin_or]
  · rw [if_neg hok] at c3 ⊢
    simp [d9, hw, hel, h5e, h5i, c1, c2, dc, htt, unpV, hx0, hx1, hx2, hx3, hx4, v1, v2, v3, v4, f2, f3, f4, g2, g3, g4, hu  , c3, -bin_shl, -bin_or]

set_option maxHeartbeats 4000000 in
theorem runpack_ret (s : List UInt8) (hl : s.length ≤ 100000) : RetT cfg 13 [.t (.s s)] (.tu ((unpV (unpackP s)).map .t)) := by
  refine RetT.of_tu ?_
  rw [runL_pf (fn := f13) rfl rfl]
  unfold unpackP
  by_cases h9 : s.length < 9
  · rw [if_pos h9]
    have d9 : decide ((s.length : Int) < 9) = true := decide_eq_true (by omega)
    simp [d9, unpV]
  have d9 : decide ((s.length : Int) < 9) = false := decide_eq_false (by omega)
  rw [if_neg h9]
  obtain ⟨e, he⟩ : ∃ e : Nat, e = s.length - 4 := ⟨_, rfl⟩
  have hw : IntKind.i64.wrap ((s.length : Int) - 4) = (e : Int) := by rw [wrap_id (by omega) (by omega)]; omega
  have hel : e ≤ s.length := by omega
  have h5e : 5 ≤ e := by omega
  have h5i : (5 : Int) ≤ (e : Int) := by omega
  have c1 := fun hp => callQ_tr (C := cfg) (rsum_ret (s.take e) (by rw [List.length_take]; omega)) rfl hp
  have c2 := fun hp => callQ_tr (C := cfg) (rfour_ret (crcN (s.take e)) (crcN_lt _)) rfl hp
  rw [crcI_N] at c1
  rw [← he]
  simp only [iv] at c1 c2
  have htt : (s.take s.length).drop e = s.drop e := by rw [List.take_length]
  by_cases hc : s.drop e = fourN (crcN (s.take e))
  case neg =>
    rw [if_pos hc]
    have dc : (fourN (crcN (s.take e)) == s.drop e) = false := by
      rw [Bool.eq_false_iff]; intro h; exact hc (eq_of_beq h).symm
    simp [d9, hw, hel, c1, c2, dc, htt, unpV]
  rw [if_neg (by simpa using hc)]
  have dc : (fourN (crcN (s.take e)) == s.drop e) = true := by rw [← hc]; simp
  obtain ⟨x0, hx0⟩ : ∃ x, s[0]? = some x := ⟨_, List.getElem?_eq_getElem (by omega)⟩
  obtain ⟨x1, hx1⟩ : ∃ x, s[1]? = some x := ⟨_, List.getElem?_eq_getElem (by omega)⟩
  obtain ⟨x2, hx2⟩ : ∃ x, s[2]? = some x := ⟨_, List.getElem?_eq_getElem (by omega)⟩
  obtain ⟨x3, hx3⟩ : ∃ x, s[3]? = some x := ⟨_, List.getElem?_eq_getElem (by omega)⟩
  obtain ⟨x4, hx4⟩ : ∃ x, s[4]? = some x := ⟨_, List.getElem?_eq_getElem (by omega)⟩
  have gd0 : s.getD 0 0 = x0 := by rw [List.getD_eq_getElem?_getD, hx0]; rfl
  have gd1 : s.getD 1 0 = x1 := by rw [List.getD_eq_getElem?_getD, hx1]; rfl
  have gd2 : s.getD 2 0 = x2 := by rw [List.getD_eq_getElem?_getD, hx2]; rfl
  have gd3 : s.getD 3 0 = x3 := by rw [List.getD_eq_getElem?_getD, hx3]; rfl
  have gd4 : s.getD 4 0 = x4 := by rw [List.getD_eq_getElem?_getD, hx4]; rfl
  rw [gd0, gd1, gd2, gd3, gd4]
  have q1 := x1.toNat_lt
  have q2 := x2.toNat_lt
  have q3 := x3.toNat_lt
  have q4 := x4.toNat_lt
  have v1 : IntKind.i64.wrap (x1.toNat : Int) = (x1.toNat : Int) := wrap_id (by omega) (by omega)
  have v2 : IntKind.i64.wrap (x2.toNat : Int) = (x2.toNat : Int) := wrap_id (by omega) (by omega)
  have v3 : IntKind.i64.wrap (x3.toNat : Int) = (x3.toNat : Int) := wrap_id (by omega) (by omega)
  have v4 : IntKind.i64.wrap (x4.toNat : Int) = (x4.toNat : Int) := wrap_id (by omega) (by omega)
  obtain ⟨m2, hm2⟩ : ∃ m : Nat, m = 256 * x2.toNat := ⟨_, rfl⟩
  obtain ⟨m3, hm3⟩ : ∃ m : Nat, m = 65536 * x3.toNat := ⟨_, rfl⟩
  obtain ⟨m4, hm4⟩ : ∃ m : Nat, m = 16777216 * x4.toNat := ⟨_, rfl⟩
  obtain ⟨n2, hn2⟩ : ∃ m : Nat, m = x1.toNat + m2 := ⟨_, rfl⟩
  obtain ⟨n3, hn3⟩ : ∃ m : Nat, m = n2 + m3 := ⟨_, rfl⟩
  have f2 : IntKind.i64.wrap (256 * (x2.toNat : Int)) = (m2 : Int) := by rw [wrap_id (by omega) (by omega)]; omega
  have f3 : IntKind.i64.wrap (65536 * (x3.toNat : Int)) = (m3 : Int) := by rw [wrap_id (by omega) (by omega)]; omega
  have f4 : IntKind.i64.wrap (16777216 * (x4.toNat : Int)) = (m4 : Int) := by rw [wrap_id (by omega) (by omega)]; omega
  have g2 : IntKind.i64.wrap ((x1.toNat : Int) + (m2 : Int)) = (n2 : Int) := by rw [wrap_id (by omega) (by omega)]; omega
  have g3 : IntKind.i64.wrap ((n2 : Int) + (m3 : Int)) = (n3 : Int) := by rw [wrap_id (by omega) (by omega)]; omega
  have g4 : IntKind.i64.wrap ((n3 : Int) + (m4 : Int)) = (fourD x1 x2 x3 x4 : Int) := by
    have : fourD x1 x2 x3 x4 = n3 + m4 := by unfold fourD; omega
    rw [this, wrap_id (by omega) (by omega)]; omega
  have c3 := fun hp => callQ_tr (C := cfg) (rpack_ret x0 (fourD x1 x2 x3 x4 : Nat) ((s.take e).drop 5) (by rw [List.length_drop, List.length_take]; omega)) rfl hp
  have htl : (s.take e).length = e := by rw [List.length_take]; omega
  have hte : (s.take e).take e = s.take e := List.take_of_length_le (by omega)
  generalize fourD x1 x2 x3 x4 = D at *
  generalize hu : (s.take e).drop 5 = u at *
  simp only [iv, bv] at c3
  by_cases hok : packOk x0 (D : Int) u
  · rw [if_pos hok]
    rw [decide_eq_true hok] at c3
    simp [d9, hw, hel, h5e, h5i, c1, c2, dc, htt, htl, hte, unpV, hx0, hx1, hx2, hx3, hx4, v1, v2, v3, v4, f2, f3, f4, g2, g3, g4, hu  , c3]
  · rw [if_neg hok]
    rw [decide_eq_false hok] at c3
    simp [d9, hw, hel, h5e, h5i, c1, c2, dc, htt, htl, hte, unpV, hx0, hx1, hx2, hx3, hx4, v1, v2, v3, v4, f2, f3, f4, g2, g3, g4, hu  , c3]
end Go.Proofs.Ytfclnkhhabiheaa.Pv
