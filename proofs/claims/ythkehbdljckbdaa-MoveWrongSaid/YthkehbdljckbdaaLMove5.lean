/- MoveWrong, reckoned. -/
import Derived.Test.YthkehbdljckbdaaLMove3
set_option linter.unusedVariables false
set_option linter.unusedSimpArgs false
set_option maxRecDepth 100000
namespace Go.Proofs.Ythkehbdljckbdaa.Pv
open Go Go.Pev

theorem u_u16 : PP.underlying 69 = some (.int .u16) := by kernel_rfl
theorem a_u16 {k : Nat} {x : V} (h : ArgFit PP (k + 1) 69 x) : ∃ m : Nat, x = .t (.i .u16 m) ∧ m ≤ 65535 := by
  obtain ⟨m, rfl, hw⟩ := argFit_int u_u16 h
  simp only [Lit.wf, Bool.and_eq_true, decide_eq_true_eq] at hw
  have h1 : IntKind.u16.min = 0 := by decide
  have h2 : IntKind.u16.max = 65535 := by decide
  exact ⟨m.toNat, by rw [Int.toNat_of_nonneg (by omega)], by omega⟩

theorem u8s_bytes : ∀ s : List UInt8, u8s (bytesT s) = some s
  | [] => rfl
  | b :: s => by
    show (match u8s (bytesT s) with | some x => some (UInt8.ofNat ((b.toNat : Int)).toNat :: x) | none => none) = _
    rw [u8s_bytes s]
    simp
theorem bytes_set (s : List UInt8) (i : Nat) (v : UInt8) : (bytesT s).set i [.i .u8 (v.toNat : Int)] = bytesT (s.set i v) := by
  simp [bytesT, List.map_set]
theorem xor_u8 (c d : BitVec 8) : bin .xor (.t (.i .u8 (c.toNat : Int))) (.t (.i .u8 (d.toNat : Int))) = some (.t (.i .u8 ((c ^^^ d).toNat : Int))) := by
  rw [bin_xor]
  show some (V.t (.i .u8 (IntKind.u8.wrap ((BitVec.ofInt 8 (c.toNat : Int) ^^^ BitVec.ofInt 8 (d.toNat : Int)).toNat : Int)))) = _
  have h := (c ^^^ d).isLt
  rw [show BitVec.ofInt 8 (c.toNat : Int) = c by simp, show BitVec.ofInt 8 (d.toNat : Int) = d by simp, IntWalk.u8_in _ (by omega)]
/-- One bit of a byte turned. -/
theorem turn_bit (c : UInt8) (b : Nat) (hb : b ≤ 255) : ∃ (y d : Nat) (v : UInt8), ((b : Int)).tmod 8 = (y : Int) ∧ bin .shl (.t (.i .u8 1)) (.t (.i .u8 (y : Int))) = some (.t (.i .u8 (d : Int))) ∧ bin .xor (.t (.i .u8 (c.toNat : Int))) (.t (.i .u8 (d : Int))) = some (.t (.i .u8 (v.toNat : Int))) ∧ v ≠ c := by
  have hy : b % 8 < 8 := Nat.mod_lt _ (by omega)
  have key : ∀ y : Fin 8, ∃ D : BitVec 8, D ≠ 0 ∧ bin .shl (.t (.i .u8 1)) (.t (.i .u8 ((y.val : Nat) : Int))) = some (.t (.i .u8 (D.toNat : Int))) := by
    intro y
    refine ⟨BitVec.ofNat 8 (2 ^ y.val), ?_, ?_⟩
    · revert y; decide
    · rw [bin_shl]
      match y with
      | ⟨0, _⟩ => rfl
      | ⟨1, _⟩ => rfl
      | ⟨2, _⟩ => rfl
      | ⟨3, _⟩ => rfl
      | ⟨4, _⟩ => rfl
      | ⟨5, _⟩ => rfl
      | ⟨6, _⟩ => rfl
      | ⟨7, _⟩ => rfl
  obtain ⟨D, hD, hs⟩ := key ⟨b % 8, hy⟩
  refine ⟨b % 8, D.toNat, ⟨c.toBitVec ^^^ D⟩, ?_, hs, ?_, ?_⟩
  · rw [Int.tmod_eq_emod_of_nonneg (by omega)]; rfl
  · exact xor_u8 c.toBitVec D
  · intro h
    have h1 : c.toBitVec ^^^ D = c.toBitVec := congrArg UInt8.toBitVec h
    have h2 := congrArg (fun z : BitVec 8 => c.toBitVec ^^^ z) h1
    simp only [← BitVec.xor_assoc, BitVec.xor_self, BitVec.zero_xor] at h2
    exact hD h2

theorem wrong_loop (sum : Int) (l : List (List UInt8)) (hn : l.length ≤ 300) (hsh : ∀ y ∈ l, y.length ≤ 64) (hsum : crcI l.flatten ≠ sum) :
    ∀ (fu j : Nat) (last : Int) (ck : Nat), j + (fu + 1) = l.length → ∃ ck', evL cfg (.loop f12l0) ⟨[(11, .pt ⟨11, 5, 8⟩ 7 0 0), (15, .t (sl l)), (17, iv last), (89, .t (sl l)), (90, iv l.length), (91, iv j)], [(⟨11, 5, 8⟩, .box 48 (mcs (mid 0 1 3 sum l (fill (List.replicate l.length false) j))))], ck⟩ =
      some (.exit 0, ⟨[(11, .pt ⟨11, 5, 8⟩ 7 0 0), (15, .t (sl l)), (17, iv 9), (89, .t (sl l)), (90, iv l.length), (91, iv l.length), (92, bv false)], [(⟨11, 5, 8⟩, .box 48 (mcs (mid 0 1 3 sum l (fill (List.replicate l.length false) l.length))))], ck'⟩) := by
  have step : ∀ (j : Nat) (last : Int) (ck : Nat) (hj : j < l.length), evL cfg f12l0 ⟨[(11, .pt ⟨11, 5, 8⟩ 7 0 0), (15, .t (sl l)), (17, iv last), (89, .t (sl l)), (90, iv l.length), (91, iv j)], [(⟨11, 5, 8⟩, .box 48 (mcs (mid 0 1 3 sum l (fill (List.replicate l.length false) j))))], ck⟩ =
      some (.normal, ⟨[(11, .pt ⟨11, 5, 8⟩ 7 0 0), (15, .t (sl l)), (17, iv (if j + 1 < l.length then 0 else 9)), (89, .t (sl l)), (90, iv l.length), (91, iv ((j + 1 : Nat) : Int))], [(⟨11, 5, 8⟩, .box 48 (mcs (mid 0 1 3 sum l (fill (List.replicate l.length false) (j + 1)))))], ck + 6⟩) := by
    intro j last ck hj
    have hw : IntKind.i64.wrap ((j : Int) + 1) = (j : Int) + 1 := wrap_id (by omega) (by omega)
    have hz : (fill (List.replicate l.length false) j).length = l.length := by rw [fill_len (by simp; omega)]; simp
    have hp := fun st kk => callEv_tr (C := cfg) (piece_ret (mid 0 1 3 sum l (fill (List.replicate l.length false) j)) j l[j] (by simp only [mid]; omega) (by simp only [mid]; rw [gots_len hz]; omega) (fun y hy => by have := gots_short hsh y hy; omega) (by have := hsh _ (List.getElem_mem hj); omega)) rfl rfl rfl st kk
    rw [piece_new hz hj (by rw [fill_get (by simpa using hj)]; simp), fill_set (by simpa using hj), if_neg hsum] at hp
    have hcon : (fill (List.replicate l.length false) (j + 1)).contains false = decide (j + 1 < l.length) := by
      by_cases hlast : j + 1 < l.length
      · rw [decide_eq_true hlast, List.contains_eq_mem]
        refine decide_eq_true ?_
        have h1 : j + 1 < (fill (List.replicate l.length false) (j + 1)).length := by rw [fill_len (by simp; omega)]; simpa using hlast
        have h2 : (fill (List.replicate l.length false) (j + 1))[j + 1] = false := by rw [fill_get (by simpa using hlast)]; simp
        have hm := List.getElem_mem h1
        rw [h2] at hm
        exact hm
      · have hjl : j + 1 = l.length := by omega
        rw [decide_eq_false hlast, hjl]
        have := fill_all (List.replicate l.length false)
        rwa [List.length_replicate] at this
    rw [hcon] at hp
    have hli : l[j]? = some l[j] := List.getElem?_eq_getElem hj
    obtain ⟨nm, hnm⟩ : ∃ nm : Nat, nm = l.length - 1 := ⟨_, rfl⟩
    have hw2 : IntKind.i64.wrap ((l.length : Int) - 1) = (nm : Int) := by rw [wrap_id (by omega) (by omega)]; omega
    generalize mid 0 1 3 sum l (fill (List.replicate l.length false) j) = m1 at *
    generalize mid 0 1 3 sum l (fill (List.replicate l.length false) (j + 1)) = m2 at *
    by_cases hlast : j + 1 < l.length
    · rw [decide_eq_true hlast, if_pos rfl] at hp
      rw [if_pos hlast]
      simp only [pieV, mvV, mcs, bl, sl, iv, bv] at hp ⊢
      simp [f12l0e, sl, hj, hw, hp, over]
    · rw [decide_eq_false hlast, if_neg (by simp)] at hp
      rw [if_neg hlast]
      have d1 : decide (j < nm) = false := decide_eq_false (by omega)
      simp only [pieV, mvV, mcs, bl, sl, iv, bv] at hp ⊢
      simp [f12l0e, sl, hj, hw, hw2, d1, hp, over]
  intro fu
  induction fu with
  | zero =>
    intro j last ck h
    have hj : j < l.length := by omega
    have hjl : j + 1 = l.length := by omega
    refine ⟨ck + 6 + 1, ?_⟩
    rw [evL_loop_n (step j last ck hj), if_neg (by omega), hjl, evL_loop]
    simp [f12l0e, sl]
  | succ fu ih =>
    intro j last ck h
    have hj : j < l.length := by omega
    obtain ⟨ck', hc⟩ := ih (j + 1) (if j + 1 < l.length then 0 else 9) (ck + 6) (by omega)
    exact ⟨ck', by rw [evL_loop_n (step j last ck hj), hc]⟩

set_option maxHeartbeats 8000000 in
theorem mwrong (s : List UInt8) (b a t : Nat) (hb : b ≤ 255) (hat : a ≤ 65535) (ht : t ≤ 255) : ∃ hp c, runL cfg 12 [.t (.s s), .t (.i .u8 b), .t (.i .u16 a), .t (.i .u8 t)] [] 0 = some (bv true, hp, c) := by
  have ha := fun s k => callEv_tr (C := cfg) awake22_ret rfl rfl rfl s k
  have h0 := fun s k => callEv_tr (C := cfg) plain22_ret rfl rfl rfl s k
  have h0q := fun hp => callQ_tr (C := cfg) plain22_ret rfl hp
  simp only [mapV, gl, il, iv, bv, List.map_cons, List.map_nil] at ha h0 h0q
  obtain ⟨m, k, t1, t2, t3, hk⟩ := size_of b hb
  rw [runL_pf (fn := f12) rfl rfl]
  by_cases h1 : s = []
  · subst h1
    simp [ha]
  have d1 : (s == []) = false := by simpa using h1
  by_cases h2 : s.length ≤ 300
  case neg =>
    have d2 : decide ((300 : Int) < (s.length : Int)) = true := decide_eq_true (by omega)
    simp [ha, d1, d2]
  have d2 : decide ((300 : Int) < (s.length : Int)) = false := decide_eq_false (by omega)
  have hpos : 0 < s.length := List.length_pos_iff.2 h1
  obtain ⟨pos, hpe⟩ : ∃ pos : Nat, pos = a % s.length := ⟨_, rfl⟩
  have hps : pos < s.length := by rw [hpe]; exact Nat.mod_lt _ hpos
  have p1 : ((a : Int)).tmod (s.length : Int) = (pos : Int) := by rw [hpe, Int.tmod_eq_emod_of_nonneg (by omega)]; rfl
  have p2 : IntKind.i64.wrap (a : Int) = (a : Int) := wrap_id (by omega) (by omega)
  obtain ⟨y, d, v, q1, q2, q3, q4⟩ := turn_bit s[pos] t ht
  have hl' : (s.set pos v).length = s.length := by simp
  have hne : s.set pos v ≠ [] := fun e => by rw [e] at hl'; simp at hl'; omega
  have hbt := bytesT_get hps
  have hbt' : ∀ h : pos < (bytesT s).length, (bytesT s)[pos] = [.i .u8 s[pos].toNat] := fun h => by simp [bytesT]
  have hset := bytes_set s pos v
  have hu8 := u8s_bytes (s.set pos v)
  have hbl : (bytesT s).length = s.length := by simp [bytesT]
  have hbl' : (bytesT (s.set pos v)).length = s.length := by simp [bytesT]
  have hall : ((bytesT (s.set pos v)).all fun c => c.length == 1) = true := List.all_eq_true.2 fun c hc => by
    obtain ⟨b, _, rfl⟩ := List.mem_map.1 hc; rfl
  have hcrc := crcI_set hps q4
  have hbg := fun st k' => callEv_tr (C := cfg) (begin_ret 0 [[1]] 0 1 3 s k (by decide) (by decide) (by omega)) rfl rfl rfl st k'
  rw [begin_mid (by decide) (by decide) (by decide) (by decide) h1 hk] at hbg
  have hbg2 := fun hp => callQ_tr (C := cfg) (begin_ret 0 [[1]] 0 1 3 (s.set pos v) k (by decide) (by decide) (by omega)) rfl hp
  rw [begin_mid (by decide) (by decide) (by decide) (by decide) hne hk] at hbg2
  have hn := cut_le hk.1 (s.set pos v)
  have hsm := cut_same hk.1 (s.set pos v) s hl'
  have hnp : 0 < (cut k (s.set pos v)).length := by rw [cut_cons hk.1 hne]; simp
  have hfl := cut_flatten hk.1 (s.set pos v)
  have hmid : mid 0 1 3 (crcI s) (cut k s) (List.replicate (cut k s).length false) = mid 0 1 3 (crcI s) (cut k (s.set pos v)) (fill (List.replicate (cut k (s.set pos v)).length false) 0) := by
    have hc1 : ∀ n : Nat, 0 < n → (List.replicate n false).contains false = true := fun n h => by rw [List.contains_eq_mem]; exact decide_eq_true (List.mem_replicate.2 ⟨by omega, rfl⟩)
    rw [fill_zero]
    unfold mid
    rw [gots_none, gots_none, ← hsm, hc1 _ hnp, if_pos rfl, if_pos rfl]
  rw [hmid] at hbg
  obtain ⟨c, hl⟩ := wrong_loop (crcI s) (cut k (s.set pos v)) (by omega) (cut_short hk _) (by rw [hfl]; exact hcrc) ((cut k (s.set pos v)).length - 1) 0 0 10 (by omega)
  have hM : mid 0 1 3 (crcI s) (cut k (s.set pos v)) (fill (List.replicate (cut k (s.set pos v)).length false) (cut k (s.set pos v)).length) = ⟨0, 1, 3, 4, crcI s, fill (List.replicate (cut k (s.set pos v)).length false) (cut k (s.set pos v)).length, cut k (s.set pos v)⟩ := by
    have hc0 := fill_all (List.replicate (cut k (s.set pos v)).length false)
    rw [List.length_replicate] at hc0
    have hz : (fill (List.replicate (cut k (s.set pos v)).length false) (cut k (s.set pos v)).length).length = (cut k (s.set pos v)).length := by rw [fill_len (by simp)]; simp
    simp only [mid, hc0, gots_all hz hc0, hfl, if_neg hcrc]; simp
  rw [hM] at hl
  have hcm := fun hp => callQ_tr (C := cfg) (commit_ret ⟨0, 1, 3, 4, crcI s, fill (List.replicate (cut k (s.set pos v)).length false) (cut k (s.set pos v)).length, cut k (s.set pos v)⟩ 0 [[1]] (by decide) (by decide)) rfl hp
  unfold commitP at hcm
  rw [if_pos (by simp)] at hcm
  have htx := fun st kk => callEv_tr (C := cfg) (text_ret ⟨0, 1, 3, 4, crcI s, fill (List.replicate (cut k (s.set pos v)).length false) (cut k (s.set pos v)).length, cut k (s.set pos v)⟩ (by simp only; omega) (by simp only; rw [hfl]; omega)) rfl rfl rfl st kk
  simp only [textP] at htx
  have hnp' : ¬ (cut k (s.set pos v)) = [] := fun e => by rw [e] at hnp; simp at hnp
  have hbig : s.length ≤ 140737488355328 := by omega
  have hb3 : (((cut k (s.set pos v)).length : Int) == 0) = false := by simp; exact hnp'
  have hb2 : ((s.length : Int) == 0) = false := by simp; exact h1
  generalize mid 0 1 3 (crcI s) (cut k (s.set pos v)) (fill (List.replicate (cut k (s.set pos v)).length false) 0) = m1 at *
  generalize mid 0 1 3 (crcI (s.set pos v)) (cut k (s.set pos v)) (List.replicate (cut k (s.set pos v)).length false) = m2 at *
  generalize fill (List.replicate (cut k (s.set pos v)).length false) (cut k (s.set pos v)).length = hz2 at *
  simp only [begV, comV, mcs, mvV, mapV, gl, bl, sl, iv, bv, List.map_cons, List.map_nil, Int.natCast_zero] at hbg hbg2 hcm htx hl
  simp at htx
  rw [← hset] at hbl' hall hu8
  have hels : ∀ hp : HP, hp.get ⟨36, 2, 1⟩ = some (.row 5 1 ((bytesT s).set pos [.i .u8 (v.toNat : Int)]) false) → elsOf hp 1 (.ow ⟨36, 2, 1⟩ 1 0 s.length) = some ((bytesT s).set pos [.i .u8 (v.toNat : Int)]) := fun hp hg => by
    unfold elsOf
    rw [treeOf_ow hg hbl']
    simp only [hall, if_true]
  simp [ha, h0, h0q, h1, d1, d2, t1, t2, t3, p1, p2, q1, q2, q3, hbt, hbt', hbl, hbl', hall, hu8, hps, hbig, hbg, hbg2, hcm, htx, hl, hsm.symm, hb3, over, treesC, treesOf, treeOf, hels, keysOf, freezeAll, -bin_xor, -bin_shl]

theorem moveWrong_ev (xs : List V) (h : ArgsFit PP 8 [9, 5, 69, 5] xs) : ∃ hp c, runL cfg 12 xs [] 0 = some (bv true, hp, c) := by
  obtain ⟨x1, r, rfl, h1, h⟩ := argsFit_cons h
  obtain ⟨x2, r, rfl, h2, h⟩ := argsFit_cons h
  obtain ⟨x3, r, rfl, h3, h⟩ := argsFit_cons h
  obtain ⟨x4, r, rfl, h4, h⟩ := argsFit_cons h
  cases argsFit_nil h
  obtain ⟨s, rfl, _⟩ := a_str h1
  obtain ⟨b, rfl, hb⟩ := a_u8 h2
  obtain ⟨a, rfl, hat⟩ := a_u16 h3
  obtain ⟨t, rfl, ht⟩ := a_u8 h4
  exact mwrong s b a t hb hat ht
end Go.Proofs.Ythkehbdljckbdaa.Pv
