/- What the document's Pack, and both Unpack tell. -/
import Derived.Test.YtccnadleegcobaaSPort1
set_option linter.unusedVariables false
set_option linter.unusedSimpArgs false
namespace Go.Proofs.Ytccnadleegcobaa.Pv
open Go Go.Pev

def unpV (r : UInt8 × Int × List UInt8 × Int) : List T := [.i .u8 r.1.toNat, .i .i64 r.2.1, .s r.2.2.1, .i .i64 r.2.2.2]

set_option maxHeartbeats 4000000 in
theorem unpack_ret (s : List UInt8) (hl : s.length ≤ 100000) : RetT cfg 15 [.t (.s s)] (.tu ((unpV (unpackP s)).map .t)) := by
  refine RetT.of_tu ?_
  rw [runL_pf (fn := f15) rfl rfl]
  unfold unpackP
  by_cases h9 : s.length < 9
  · rw [if_pos h9]
    have d9 : decide ((s.length : Int) < 9) = true := decide_eq_true (by omega)
    simp [d9, unpV]
  have d9 : decide ((s.length : Int) < 9) = false := decide_eq_false (by omega)
  rw [if_neg h9]
  have hps := fun hc => pack_is (s := s) (by omega) hc
  obtain ⟨e, he⟩ : ∃ e : Nat, e = s.length - 4 := ⟨_, rfl⟩
  have hw : IntKind.i64.wrap ((s.length : Int) - 4) = (e : Int) := by rw [wrap_id (by omega) (by omega)]; omega
  have hel : e ≤ s.length := by omega
  have h5e : 5 ≤ e := by omega
  have h5i : (5 : Int) ≤ (e : Int) := by omega
  have c1 := fun hp => callQ_tr (C := cfg) (crc_ret (s.take e) (by rw [List.length_take]; omega)) rfl hp
  have c2 := fun hp => callQ_tr (C := cfg) (four_ret (crcN (s.take e)) (crcN_lt _)) rfl hp
  rw [crcI_N] at c1
  rw [← he] at hps ⊢
  simp only [iv] at c1 c2
  have htt : (s.take s.length).drop e = s.drop e := by rw [List.take_length]
  by_cases hc : s.drop e = fourN (crcN (s.take e))
  case neg =>
    rw [if_pos hc]
    have dc : (s.drop e == fourN (crcN (s.take e))) = false := by simpa using hc
    simp [d9, hw, hel, c1, c2, dc, htt, unpV]
  rw [if_neg (by simpa using hc)]
  have hps := hps hc
  have dc : (s.drop e == fourN (crcN (s.take e))) = true := by simpa using hc
  obtain ⟨x0, hx0⟩ : ∃ x, s[0]? = some x := ⟨_, List.getElem?_eq_getElem (by omega)⟩
  obtain ⟨x1, hx1⟩ : ∃ x, s[1]? = some x := ⟨_, List.getElem?_eq_getElem (by omega)⟩
  obtain ⟨x2, hx2⟩ : ∃ x, s[2]? = some x := ⟨_, List.getElem?_eq_getElem (by omega)⟩
  obtain ⟨x3, hx3⟩ : ∃ x, s[3]? = some x := ⟨_, List.getElem?_eq_getElem (by omega)⟩
  obtain ⟨x4, hx4⟩ : ∃ x, s[4]? = some x := ⟨_, List.getElem?_eq_getElem (by omega)⟩
  have gd0 : s.getD 0 0 = x0 := by rw [List.getD_eq_getElem?_getD, hx0]; rfl
  have gd1 : s.getD 1 0 = x1 := by rw [List.getD_eq_getElem?_getD, hx1]; rfl
  have gd2 : s.getD 2 0 = x2 := by rw [List.getD_eq_getElem?_getD, hx2]; rfl
  have gd3 : s.getD 3 0 = x3 := by rw [List.getD_eq_getElem?_getD, hx3]; rfl
  have gd4 : s.getD 4 0 = x4 := by rw [List.getD_eq_getElem?_getD, hx4]; rfl
  rw [gd0, gd1, gd2, gd3, gd4] at hps ⊢
  have q1 := x1.toNat_lt
  have q2 := x2.toNat_lt
  have q3 := x3.toNat_lt
  have q4 := x4.toNat_lt
  obtain ⟨m2, hm2⟩ : ∃ m : Nat, m = 256 * x2.toNat := ⟨_, rfl⟩
  obtain ⟨m3, hm3⟩ : ∃ m : Nat, m = 65536 * x3.toNat := ⟨_, rfl⟩
  obtain ⟨m4, hm4⟩ : ∃ m : Nat, m = 16777216 * x4.toNat := ⟨_, rfl⟩
  obtain ⟨n2, hn2⟩ : ∃ m : Nat, m = x1.toNat + m2 := ⟨_, rfl⟩
  obtain ⟨n3, hn3⟩ : ∃ m : Nat, m = n2 + m3 := ⟨_, rfl⟩
  have hD : fourD x1 x2 x3 x4 = n3 + m4 := by unfold fourD; omega
  have f2 := shl_at' (n := x2.toNat) (i := 8) (m := m2) (by omega) (by omega) (by omega)
  have f3 := shl_at' (n := x3.toNat) (i := 16) (m := m3) (by omega) (by omega) (by omega)
  have f4 := shl_at' (n := x4.toNat) (i := 24) (m := m4) (by omega) (by omega) (by omega)
  have g2 := or_at' (a := x1.toNat) (b := x2.toNat) (i := 8) (m := m2) (n := n2) (by omega) (by omega) (by omega) (by omega)
  have g3 := or_at' (a := n2) (b := x3.toNat) (i := 16) (m := m3) (n := n3) (by omega) (by omega) (by omega) (by omega)
  have g4 := or_at' (a := n3) (b := x4.toNat) (i := 24) (m := m4) (n := fourD x1 x2 x3 x4) (by omega) (by omega) (by omega) (by omega)
  have v1 : IntKind.i64.wrap (x1.toNat : Int) = (x1.toNat : Int) := wrap_id (by omega) (by omega)
  have v2 : IntKind.i64.wrap (x2.toNat : Int) = (x2.toNat : Int) := wrap_id (by omega) (by omega)
  have v3 : IntKind.i64.wrap (x3.toNat : Int) = (x3.toNat : Int) := wrap_id (by omega) (by omega)
  have v4 : IntKind.i64.wrap (x4.toNat : Int) = (x4.toNat : Int) := wrap_id (by omega) (by omega)
  have c3 := fun hp => callQ_tr (C := cfg) (pack_ret x0 (fourD x1 x2 x3 x4 : Nat) ((s.take e).drop 5) (by rw [List.length_drop, List.length_take]; omega)) rfl hp
  have hpr : packOk x0 (fourD x1 x2 x3 x4 : Nat) ((s.take e).drop 5) → packR x0 (fourD x1 x2 x3 x4 : Nat) ((s.take e).drop 5) = s := fun h => by
    unfold packR; rw [if_pos h]; exact hps
  generalize fourD x1 x2 x3 x4 = D at *
  generalize hu : (s.take e).drop 5 = u at *
  have e8 : ((8 : Nat) : Int) = 8 := rfl
  have e16 : ((16 : Nat) : Int) = 16 := rfl
  have e24 : ((24 : Nat) : Int) = 24 := rfl
  rw [e8] at f2
  rw [e16] at f3
  rw [e24] at f4
  simp only [iv] at c3
  by_cases hok : packOk x0 (D : Int) u
  · rw [if_pos hok] at c3 ⊢
    rw [hpr hok] at c3
    simp [d9, hw, hel, h5e, h5i, c1, c2, dc, htt, unpV, hx0, hx1, hx2, hx3, hx4, v1, v2, v3, v4, f2, f3, f4, g2, g3, g4, hu  , c3, -bin_shl, -bin_or]
  · rw [if_neg hok] at c3 ⊢
    simp [d9, hw, hel, h5e, h5i, c1, c2, dc, htt, unpV, hx0, hx1, hx2, hx3, hx4, v1, v2, v3, v4, f2, f3, f4, g2, g3, g4, hu  , c3, -bin_shl, -bin_or]

end Go.Proofs.Ytccnadleegcobaa.Pv
