/- PortBack, reckoned. -/
import Derived.Test.YtfclnkhhabiheaaLPort1
set_option linter.unusedVariables false
set_option linter.unusedSimpArgs false
set_option maxRecDepth 100000
namespace Go.Proofs.Ytfclnkhhabiheaa.Pv
open Go Go.Pev

theorem u8s_bytes : ∀ s : List UInt8, u8s (bytesT s) = some s
  | [] => rfl
  | b :: s => by
    show (match u8s (bytesT s) with | some x => some (UInt8.ofNat ((b.toNat : Int)).toNat :: x) | none => none) = _
    rw [u8s_bytes s]
    simp
theorem bytes_set (s : List UInt8) (i : Nat) (v : UInt8) : (bytesT s).set i [.i .u8 (v.toNat : Int)] = bytesT (s.set i v) := by
  simp [bytesT, List.map_set]
theorem xor_u8 (c d : BitVec 8) : bin .xor (.t (.i .u8 (c.toNat : Int))) (.t (.i .u8 (d.toNat : Int))) = some (.t (.i .u8 ((c ^^^ d).toNat : Int))) := by
  rw [bin_xor]
  show some (V.t (.i .u8 (IntKind.u8.wrap ((BitVec.ofInt 8 (c.toNat : Int) ^^^ BitVec.ofInt 8 (d.toNat : Int)).toNat : Int)))) = _
  have h := (c ^^^ d).isLt
  rw [show BitVec.ofInt 8 (c.toNat : Int) = c by simp, show BitVec.ofInt 8 (d.toNat : Int) = d by simp, IntWalk.u8_in _ (by omega)]
/-- One bit of a byte turned. -/
theorem turn_bit (c : UInt8) (b : Nat) (hb : b ≤ 255) : ∃ (y d : Nat) (v : UInt8), ((b : Int)).tmod 8 = (y : Int) ∧ bin .shl (.t (.i .u8 1)) (.t (.i .u8 (y : Int))) = some (.t (.i .u8 (d : Int))) ∧ bin .xor (.t (.i .u8 (c.toNat : Int))) (.t (.i .u8 (d : Int))) = some (.t (.i .u8 (v.toNat : Int))) ∧ v ≠ c := by
  have hy : b % 8 < 8 := Nat.mod_lt _ (by omega)
  have key : ∀ y : Fin 8, ∃ D : BitVec 8, D ≠ 0 ∧ bin .shl (.t (.i .u8 1)) (.t (.i .u8 ((y.val : Nat) : Int))) = some (.t (.i .u8 (D.toNat : Int))) := by
    intro y
    refine ⟨BitVec.ofNat 8 (2 ^ y.val), ?_, ?_⟩
    · revert y; decide
    · rw [bin_shl]
      match y with
      | ⟨0, _⟩ => rfl
      | ⟨1, _⟩ => rfl
      | ⟨2, _⟩ => rfl
      | ⟨3, _⟩ => rfl
      | ⟨4, _⟩ => rfl
      | ⟨5, _⟩ => rfl
      | ⟨6, _⟩ => rfl
      | ⟨7, _⟩ => rfl
  obtain ⟨D, hD, hs⟩ := key ⟨b % 8, hy⟩
  refine ⟨b % 8, D.toNat, ⟨c.toBitVec ^^^ D⟩, ?_, hs, ?_, ?_⟩
  · rw [Int.tmod_eq_emod_of_nonneg (by omega)]; rfl
  · exact xor_u8 c.toBitVec D
  · intro h
    have h1 : c.toBitVec ^^^ D = c.toBitVec := congrArg UInt8.toBitVec h
    have h2 := congrArg (fun z : BitVec 8 => c.toBitVec ^^^ z) h1
    simp only [← BitVec.xor_assoc, BitVec.xor_self, BitVec.zero_xor] at h2
    exact hD h2

set_option maxHeartbeats 8000000 in
theorem back (q : Nat) (text : List UInt8) (told : Bool) (a b : Nat) (hq : q ≤ 4294967295) (hat : a ≤ 65535) (hb : b ≤ 255) : ∃ hp c, runL cfg 7 [.t (.i .u32 q), .t (.s text), bv told, .t (.i .u16 a), .t (.i .u8 b)] [] 0 = some (bv true, hp, c) := by
  have ha := fun s k => callEv_tr (C := cfg) awake_ret rfl rfl rfl s k
  have haq := fun hp => callQ_tr (C := cfg) awake_ret rfl hp
  simp only [bv] at ha haq
  rw [runL_pf (fn := f7) rfl rfl]
  by_cases h1 : text.length ≤ 100
  case neg =>
    have d1 : decide ((100 : Int) < (text.length : Int)) = true := decide_eq_true (by omega)
    simp [ha, d1]
  have d1 : decide ((100 : Int) < (text.length : Int)) = false := decide_eq_false (by omega)
  obtain ⟨n, hn⟩ : ∃ n : Nat, n = q % 2147483648 := ⟨_, rfl⟩
  have hn2 : n < 2147483648 := by rw [hn]; exact Nat.mod_lt _ (by omega)
  have r1 : ((q : Int)).tmod 2147483648 = (n : Int) := by rw [hn, Int.tmod_eq_emod_of_nonneg (by omega)]; rfl
  have r2 : IntKind.i64.wrap (n : Int) = (n : Int) := wrap_id (by omega) (by omega)
  have key : ∀ (kind : UInt8) (tx : List UInt8), packOk kind (n : Int) tx → tx.length ≤ 100 → ∃ (s : List UInt8) (y d pos : Nat) (v : UInt8) (hps : pos < s.length), s.length = 9 + tx.length ∧ packR kind n tx = s ∧ unpackP s = (kind, (n : Int), tx, 0) ∧ unpackP (s.set pos v) = (0, 0, [], 9) ∧ ((a : Int)).tmod (s.length : Int) = (pos : Int) ∧ ((b : Int)).tmod 8 = (y : Int) ∧ bin .shl (.t (.i .u8 1)) (.t (.i .u8 (y : Int))) = some (.t (.i .u8 (d : Int))) ∧ bin .xor (.t (.i .u8 (s[pos].toNat : Int))) (.t (.i .u8 (d : Int))) = some (.t (.i .u8 (v.toNat : Int))) := by
    intro kind tx hok hl
    have hs := packB_len kind (n : Int).toNat tx
    obtain ⟨pos, hpe⟩ : ∃ pos : Nat, pos = a % (packB kind (n : Int).toNat tx).length := ⟨_, rfl⟩
    have hps : pos < (packB kind (n : Int).toNat tx).length := by rw [hpe]; exact Nat.mod_lt _ (by omega)
    obtain ⟨y, d, v, q1, q2, q3, q4⟩ := turn_bit (packB kind (n : Int).toNat tx)[pos] b hb
    refine ⟨packB kind (n : Int).toNat tx, y, d, pos, v, hps, hs, packR_ok hok, unpack_pack hok, unpack_turned hps q4, ?_, q1, q2, q3⟩
    rw [hpe, Int.tmod_eq_emod_of_nonneg (by omega)]; rfl
  have p2 : IntKind.i64.wrap (a : Int) = (a : Int) := wrap_id (by omega) (by omega)
  cases told with
  | false =>
    have hok : packOk 68 (n : Int) text := ⟨.inl rfl, by omega, by omega⟩
    obtain ⟨s, y, d, pos, v, hps, hl, e1, e2, e3, p1, q1, q2, q3⟩ := key 68 text hok h1
    have hp := fun st k => callEv_tr (C := cfg) (pack_ret 68 n text (by omega)) rfl rfl rfl st k
    rw [e1, if_pos hok] at hp
    have hu := fun st k => callEv_tr (C := cfg) (unpack_ret s (by omega)) rfl rfl rfl st k
    have hv := fun st k => callEv_tr (C := cfg) (unpack_ret (s.set pos v) (by simp; omega)) rfl rfl rfl st k
    rw [e2] at hu
    rw [e3] at hv
    simp only [unpV, iv] at hp hu hv
    simp at hp hu hv
    have hl' : (s.set pos v).length = s.length := by simp
    have hbt := bytesT_get hps
    have hbt' : ∀ h : pos < (bytesT s).length, (bytesT s)[pos] = [.i .u8 s[pos].toNat] := fun h => by simp [bytesT]
    have hset := bytes_set s pos v
    have hu8 := u8s_bytes (s.set pos v)
    have hbl : (bytesT s).length = s.length := by simp [bytesT]
    have hbl' : (bytesT (s.set pos v)).length = s.length := by simp [bytesT]
    have hall : ((bytesT (s.set pos v)).all fun c => c.length == 1) = true := List.all_eq_true.2 fun c hc => by
      obtain ⟨b, _, rfl⟩ := List.mem_map.1 hc; rfl
    rw [← hset] at hbl' hall hu8
    have hels : ∀ hp : HP, hp.get ⟨50, 6, 1⟩ = some (.row 5 1 ((bytesT s).set pos [.i .u8 (v.toNat : Int)]) false) → elsOf hp 1 (.ow ⟨50, 6, 1⟩ 1 0 s.length) = some ((bytesT s).set pos [.i .u8 (v.toNat : Int)]) := fun hp hg => by
      unfold elsOf
      rw [treeOf_ow hg hbl']
      simp only [hall, if_true]
    have hbig : s.length ≤ 140737488355328 := by omega
    have d3 : ((s.length : Int) != 9 + (text.length : Int)) = false := by simp [bne, hl]
    have w3 : IntKind.i64.wrap (9 + (text.length : Int)) = 9 + (text.length : Int) := wrap_id (by omega) (by omega)
    have d4 : ¬ s = [] := fun e => by rw [e] at hl; simp at hl; omega
    simp [ha, haq, d1, d3, d4, w3, r1, r2, p1, p2, q1, q2, q3, hp, hu, hv, hbt, hbt', hbl, hbl', hall, hu8, hps, hbig, hels, over, treesC, treesOf, treeOf, keysOf, freezeAll, filt_true, -bin_xor, -bin_shl, -List.length_set]
  | true =>
    have hok : packOk 65 (n : Int) [] := ⟨.inr ⟨rfl, rfl⟩, by omega, by omega⟩
    obtain ⟨s, y, d, pos, v, hps, hl, e1, e2, e3, p1, q1, q2, q3⟩ := key 65 [] hok (by simp)
    have hp := fun st k => callEv_tr (C := cfg) (pack_ret 65 n [] (by simp)) rfl rfl rfl st k
    rw [e1, if_pos hok] at hp
    have hu := fun st k => callEv_tr (C := cfg) (unpack_ret s (by rw [hl]; simp)) rfl rfl rfl st k
    have hv := fun st k => callEv_tr (C := cfg) (unpack_ret (s.set pos v) (by rw [List.length_set, hl]; simp)) rfl rfl rfl st k
    rw [e2] at hu
    rw [e3] at hv
    simp only [unpV, iv] at hp hu hv
    simp at hp hu hv
    have hl' : (s.set pos v).length = s.length := by simp
    have hbt := bytesT_get hps
    have hbt' : ∀ h : pos < (bytesT s).length, (bytesT s)[pos] = [.i .u8 s[pos].toNat] := fun h => by simp [bytesT]
    have hset := bytes_set s pos v
    have hu8 := u8s_bytes (s.set pos v)
    have hbl : (bytesT s).length = s.length := by simp [bytesT]
    have hbl' : (bytesT (s.set pos v)).length = s.length := by simp [bytesT]
    have hall : ((bytesT (s.set pos v)).all fun c => c.length == 1) = true := List.all_eq_true.2 fun c hc => by
      obtain ⟨b, _, rfl⟩ := List.mem_map.1 hc; rfl
    rw [← hset] at hbl' hall hu8
    have hels : ∀ hp : HP, hp.get ⟨50, 7, 1⟩ = some (.row 5 1 ((bytesT s).set pos [.i .u8 (v.toNat : Int)]) false) → elsOf hp 1 (.ow ⟨50, 7, 1⟩ 1 0 s.length) = some ((bytesT s).set pos [.i .u8 (v.toNat : Int)]) := fun hp hg => by
      unfold elsOf
      rw [treeOf_ow hg hbl']
      simp only [hall, if_true]
    have hbig : s.length ≤ 140737488355328 := by rw [hl]; simp
    simp only [List.length_nil, Nat.add_zero] at hl
    have d3 : ((s.length : Int) != 9) = false := by simp [bne, hl]
    have w3 : IntKind.i64.wrap 9 = 9 := wrap_id (by omega) (by omega)
    have d4 : ¬ s = [] := fun e => by rw [e] at hl; simp at hl
    simp [ha, haq, d1, d3, d4, w3, r1, r2, p1, p2, q1, q2, q3, hp, hu, hv, hbt, hbt', hbl, hbl', hall, hu8, hps, hbig, hels, over, treesC, treesOf, treeOf, keysOf, freezeAll, filt_true, -bin_xor, -bin_shl, -List.length_set]

theorem portBack_ev (xs : List V) (h : ArgsFit PP 8 [71, 9, 4, 72, 5] xs) : ∃ hp c, runL cfg 7 xs [] 0 = some (bv true, hp, c) := by
  obtain ⟨x1, r, rfl, h1, h⟩ := argsFit_cons h
  obtain ⟨x2, r, rfl, h2, h⟩ := argsFit_cons h
  obtain ⟨x3, r, rfl, h3, h⟩ := argsFit_cons h
  obtain ⟨x4, r, rfl, h4, h⟩ := argsFit_cons h
  obtain ⟨x5, r, rfl, h5, h⟩ := argsFit_cons h
  cases argsFit_nil h
  obtain ⟨q, rfl, hq⟩ := a_u32 h1
  obtain ⟨t, rfl, _⟩ := a_str h2
  obtain ⟨d, rfl⟩ := a_bool h3
  obtain ⟨a, rfl, hat⟩ := a_u16 h4
  obtain ⟨b, rfl, hb⟩ := a_u8 h5
  exact back q t d a b hq hat hb
end Go.Proofs.Ytfclnkhhabiheaa.Pv
