/- MoveBegins, MovePieces, reckoned. -/
import Derived.Test.YthkehbdljckbdaaSMove4
import Derived.Test.YthkehbdljckbdaaArgsM
set_option linter.unusedVariables false
set_option linter.unusedSimpArgs false
set_option maxRecDepth 100000
namespace Go.Proofs.Ythkehbdljckbdaa.Pv
open Go Go.Pev

theorem u_bool : PP.underlying 4 = some .bool := by kernel_rfl
theorem u_str : PP.underlying 9 = some .string := by kernel_rfl
theorem u_bools : PP.underlying 45 = some (.slice 4) := by kernel_rfl
theorem u_strs : PP.underlying 46 = some (.slice 9) := by kernel_rfl
theorem u_move : structT PP 48 = some [3, 3, 3, 3, 3, 45, 46] := by kernel_rfl
theorem by_str : PP.bytesOf 9 = 16 := by kernel_rfl
theorem by_bool : PP.bytesOf 4 = 1 := by kernel_rfl
theorem f_bools {k : Nat} (c : List T) (h : Fits PP (k + 2) 45 c) : ∃ l : List Bool, c = [bl l] ∧ l.length ≤ reachBytes := by
  obtain ⟨l, rfl, hb, _⟩ := fits_slice (mk := fun n : Bool => [.b n]) (Q := fun _ => True) u_bools (fun c h => fits_bool u_bool h) h
  rw [by_bool] at hb
  exact ⟨l, rfl, by omega⟩
theorem f_strs {k : Nat} (c : List T) (h : Fits PP (k + 2) 46 c) : ∃ l : List (List UInt8), c = [sl l] ∧ l.length ≤ reachBytes := by
  obtain ⟨l, rfl, hb, _⟩ := fits_slice (mk := fun n : List UInt8 => [.s n]) (Q := fun s => s.length ≤ reachBytes) u_strs (fun c h => fits_string u_str h) h
  rw [by_str] at hb
  exact ⟨l, rfl, by omega⟩
theorem a_move {k : Nat} {x : V} (h : ArgFit PP (k + 3) 48 x) : ∃ m : Mv, x = mvV m ∧ m.has.length ≤ reachBytes ∧ m.got.length ≤ reachBytes ∧ I64 m.x ∧ I64 m.t := by
  obtain ⟨ts, rfl, h0⟩ := argFit_struct u_move h
  obtain ⟨a, r1, rfl, h1, g1⟩ := fitsT_cons f_int h0
  obtain ⟨b, r2, rfl, h2, g2⟩ := fitsT_cons f_int g1
  obtain ⟨c, r3, rfl, h3, g3⟩ := fitsT_cons f_int g2
  obtain ⟨d, r4, rfl, h4, g4⟩ := fitsT_cons f_int g3
  obtain ⟨e, r5, rfl, h5, g5⟩ := fitsT_cons f_int g4
  obtain ⟨hs, r6, rfl, h6, g6⟩ := fitsT_cons (mk := fun l => [bl l]) (Q := fun l => l.length ≤ reachBytes) f_bools g5
  obtain ⟨gs, r7, rfl, h7, g7⟩ := fitsT_cons (mk := fun l => [sl l]) (Q := fun l => l.length ≤ reachBytes) f_strs g6
  cases g7
  exact ⟨⟨a, b, c, d, e, hs, gs⟩, rfl, h6, h7, h1, h3⟩
theorem a_str {k : Nat} {x : V} (h : ArgFit PP (k + 1) 9 x) : ∃ s : List UInt8, x = .t (.s s) ∧ s.length ≤ reachBytes := argFit_string u_str h

/-! ### is a move short? -/
def small22 (m : Mv) : Bool := ((m.got.take 60).all fun y => decide (y.length ≤ 100)) && decide (m.got.length ≤ 60) && decide (m.has.length ≤ 60)
theorem small22_loop (ty : Nat) (cs : List V) (got : List (List UInt8)) (hl : got.length ≤ 1000000000000000000) : ∀ (k i ck : Nat), i + k = got.length → ∃ ck', evL cfg (.loop f34l0) ⟨[(1, .pt ⟨1, 0, 0⟩ 7 0 0), (6, .t (sl got)), (7, iv got.length), (8, iv i)], [(⟨1, 0, 0⟩, .box ty cs)], ck⟩ =
    some (if ((got.take 60).drop i).all (fun y => decide (y.length ≤ 100)) then (.exit 0, ⟨[(1, .pt ⟨1, 0, 0⟩ 7 0 0), (6, .t (sl got)), (7, iv got.length), (8, iv got.length), (9, bv false)], [(⟨1, 0, 0⟩, .box ty cs)], ck'⟩) else (.ret, ⟨[(2, bv false)], [], ck'⟩)) := by
  intro k
  induction k with
  | zero =>
    intro i ck h
    obtain rfl : i = got.length := by omega
    refine ⟨ck + 1, ?_⟩
    rw [evL_loop, List.drop_of_length_le (by rw [List.length_take]; omega)]
    simp [f34l0e, sl]
  | succ k ih =>
    intro i ck h
    have hi : i < got.length := by omega
    have hw : IntKind.i64.wrap ((i : Int) + 1) = (i : Int) + 1 := wrap_id (by omega) (by omega)
    by_cases h60 : i < 60
    · have h60' : (i : Int) < 60 := by omega
      have hd : (got.take 60).drop i = got[i] :: (got.take 60).drop (i + 1) := by
        rw [List.drop_eq_getElem_cons (by rw [List.length_take]; omega)]
        simp
      rw [hd, List.all_cons]
      by_cases hb : got[i].length ≤ 100
      · obtain ⟨ck', hc⟩ := ih (i + 1) (ck + 4) (by omega)
        refine ⟨ck', ?_⟩
        have d1 : decide ((100 : Int) < (got[i].length : Int)) = false := decide_eq_false (by omega)
        rw [decide_eq_true hb, Bool.true_and, ← hc, evL_loop_n]
        simp [f34l0e, sl, hi, hw, h60', d1]
      · refine ⟨ck + 4, ?_⟩
        have d1 : decide ((100 : Int) < (got[i].length : Int)) = true := decide_eq_true (by omega)
        rw [decide_eq_false hb, Bool.false_and, evL_loop]
        simp [f34l0e, sl, hi, hw, h60', d1]
    · have d0 : decide ((i : Int) < 60) = false := decide_eq_false (by omega)
      have e1 : (got.take 60).drop i = [] := List.drop_of_length_le (by rw [List.length_take]; omega)
      have e2 : (got.take 60).drop (i + 1) = [] := List.drop_of_length_le (by rw [List.length_take]; omega)
      obtain ⟨ck', hc⟩ := ih (i + 1) (ck + 4) (by omega)
      refine ⟨ck', ?_⟩
      rw [e1]
      rw [e2] at hc
      rw [← hc, evL_loop_n]
      simp [f34l0e, sl, hi, hw, d0]
theorem small22_ret (m : Mv) (hg : m.got.length ≤ 1000000000000000000) : RetT cfg 34 [mvV m] (bv (small22 m)) := by
  obtain ⟨x, f, t, p, sm, has, got⟩ := m
  obtain ⟨c, hc⟩ := small22_loop 48 [iv x, iv f, iv t, iv p, iv sm, .t (bl has), .t (sl got)] got hg got.length 0 2 (by omega)
  refine RetT.of ?_
  rw [runL_pf (fn := f34) rfl rfl]
  rw [List.drop_zero] at hc
  simp only [small22]
  simp only [iv, bv, bl, sl, Int.natCast_zero] at hc
  by_cases h1 : (got.take 60).all (fun y => decide (y.length ≤ 100)) = true
  · rw [if_pos h1] at hc
    rw [h1, Bool.true_and]
    by_cases h2 : got.length ≤ 60
    · have d2 : decide ((got.length : Int) ≤ 60) = true := decide_eq_true (by omega)
      by_cases h3 : has.length ≤ 60
      · have d3 : decide ((has.length : Int) ≤ 60) = true := decide_eq_true (by omega)
        simp [mvV, bl, sl, hc, h2, h3, d2, d3]
      · have d3 : decide ((has.length : Int) ≤ 60) = false := decide_eq_false (by omega)
        simp [mvV, bl, sl, hc, h2, h3, d2, d3]
    · have d2 : decide ((got.length : Int) ≤ 60) = false := decide_eq_false (by omega)
      simp [mvV, bl, sl, hc, h2, d2]
  · rw [if_neg h1] at hc
    have h1 : (got.take 60).all (fun y => decide (y.length ≤ 100)) = false := by simpa using h1
    rw [h1]
    simp [mvV, bl, sl, hc]
theorem small22_p {m : Mv} (h : small22 m = true) : m.got.length ≤ 60 ∧ m.has.length ≤ 60 ∧ ∀ y ∈ m.got, y.length ≤ 100 := by
  simp only [small22, Bool.and_eq_true, decide_eq_true_eq, List.all_eq_true] at h
  obtain ⟨⟨h1, h2⟩, h3⟩ := h
  rw [List.take_of_length_le h2] at h1
  exact ⟨h2, h3, h1⟩

theorem begin_lens (e : Int) (h : List (List Int)) (x f t : Int) (s : List UInt8) (size : Int) : (beginP e h x f t s size).1.has.length ≤ s.length ∧ (beginP e h x f t s size).1.got.length ≤ s.length ∧ (beginP e h x f t s size).2.1.length ≤ s.length := by
  unfold beginP
  split
  · exact ⟨Nat.zero_le _, Nat.zero_le _, Nat.zero_le _⟩
  · split
    · exact ⟨Nat.zero_le _, Nat.zero_le _, Nat.zero_le _⟩
    · rename_i h1 _
      have hs : 1 ≤ size.toNat := by
        have : 1 ≤ size ∧ size ≤ 64 := Decidable.byContradiction fun hn => h1 (.inr (.inr (.inr (.inr (.inr hn)))))
        omega
      have := cut_le hs s
      simp only [List.length_replicate]
      exact ⟨this, this, this⟩

set_option maxHeartbeats 4000000 in
theorem mbegins (e : Int) (h : List (List Int)) (x f t : Int) (s : List UInt8) (size : Int) : ∃ hp c, runL cfg 9 [mapV e h, iv x, iv f, iv t, .t (.s s), iv size] [] 0 = some (bv true, hp, c) := by
  have ha := fun s k => callEv_tr (C := cfg) awake22_ret rfl rfl rfl s k
  have haq := fun hp => callQ_tr (C := cfg) awake22_ret rfl hp
  have hs := fun s k => callEv_tr (C := cfg) (small_ret h) rfl rfl rfl s k
  simp only [bv, gl] at ha haq hs
  rw [runL_pf (fn := f9) rfl rfl]
  by_cases h1 : small h = true
  · rw [h1] at hs
    obtain ⟨l1, l2⟩ := small_iff.1 h1
    by_cases h3 : s.length ≤ 300
    · have d3 : decide ((300 : Int) < (s.length : Int)) = false := decide_eq_false (by omega)
      have b1 := fun st k => callEv_tr (C := cfg) (begin_ret e h x f t s size (by omega) (fun r hm => by have := l2 r hm; omega) (by omega)) rfl rfl rfl st k
      have b2 := fun st k => callEv_tr (C := cfg) (rbegin_ret e h x f t s size (by omega) (fun r hm => by have := l2 r hm; omega) (by omega)) rfl rfl rfl st k
      obtain ⟨k1, k2, k3⟩ := begin_lens e h x f t s size
      generalize beginP e h x f t s size = r at *
      obtain ⟨m, l, er⟩ := r
      simp only at k1 k2 k3
      have c1 := fun hp => callQ_tr (C := cfg) (ref22_ret m) rfl hp
      have c2 := fun hp => callQ_tr (C := cfg) (same22_ret m (by omega) (by omega)) rfl hp
      have c3 := fun hp => callQ_tr (C := cfg) (same08_ret l l (by omega)) rfl hp
      simp only [begV, mvV, mapV, gl, bl, sl, iv, bv] at b1 b2 c1 c2 c3
      simp at c3
      simp [mapV, gl, hs, ha, haq, d3, b1, b2, c1, c2, c3, over]
    · have d3 : decide ((300 : Int) < (s.length : Int)) = true := decide_eq_true (by omega)
      simp [mapV, gl, hs, ha, d3]
  · simp [mapV, gl, hs, ha, h1]

theorem moveBegins_ev (xs : List V) (h : ArgsFit PP 8 [24, 3, 3, 3, 9, 3] xs) : ∃ hp c, runL cfg 9 xs [] 0 = some (bv true, hp, c) := by
  obtain ⟨x1, r, rfl, h1, h⟩ := argsFit_cons h
  obtain ⟨x2, r, rfl, h2, h⟩ := argsFit_cons h
  obtain ⟨x3, r, rfl, h3, h⟩ := argsFit_cons h
  obtain ⟨x4, r, rfl, h4, h⟩ := argsFit_cons h
  obtain ⟨x5, r, rfl, h5, h⟩ := argsFit_cons h
  obtain ⟨x6, r, rfl, h6, h⟩ := argsFit_cons h
  cases argsFit_nil h
  obtain ⟨e, l, rfl, _, _⟩ := a_map h1
  obtain ⟨x, rfl, _⟩ := a_int h2
  obtain ⟨f, rfl, _⟩ := a_int h3
  obtain ⟨t, rfl, _⟩ := a_int h4
  obtain ⟨s, rfl, _⟩ := a_str h5
  obtain ⟨n, rfl, _⟩ := a_int h6
  exact mbegins e l x f t s n

theorem piece_lens (m : Mv) (i : Int) (s : List UInt8) : (pieceP m i s).1.has.length = m.has.length ∧ (pieceP m i s).1.got.length = m.got.length := by
  unfold pieceP
  repeat (first | split | exact ⟨rfl, rfl⟩ | exact ⟨List.length_set, List.length_set⟩)

set_option maxHeartbeats 4000000 in
theorem mpieces (m : Mv) (i : Int) (s : List UInt8) (hg : m.got.length ≤ 1000000000000000000) : ∃ hp c, runL cfg 10 [mvV m, iv i, .t (.s s)] [] 0 = some (bv true, hp, c) := by
  have ha := fun s k => callEv_tr (C := cfg) awake22_ret rfl rfl rfl s k
  have haq := fun hp => callQ_tr (C := cfg) awake22_ret rfl hp
  have hs := fun s k => callEv_tr (C := cfg) (small22_ret m hg) rfl rfl rfl s k
  simp only [bv, mvV, bl, sl, iv] at ha haq hs
  rw [runL_pf (fn := f10) rfl rfl]
  by_cases h1 : small22 m = true
  · rw [h1] at hs
    obtain ⟨l1, l2, l3⟩ := small22_p h1
    by_cases h3 : s.length ≤ 100
    · have d3 : decide ((100 : Int) < (s.length : Int)) = false := decide_eq_false (by omega)
      have hfl : m.got.flatten.length ≤ 1000000 := by
        have := flat_len (b := 100) m.got l3
        omega
      have b1 := fun st k => callEv_tr (C := cfg) (piece_ret m i s (by omega) (by omega) (fun y hy => by have := l3 y hy; omega) (by omega)) rfl rfl rfl st k
      have b2 := fun st k => callEv_tr (C := cfg) (rpiece_ret m i s (by omega) (by omega) (fun y hy => by have := l3 y hy; omega) (by omega)) rfl rfl rfl st k
      have b3 := fun st k => callEv_tr (C := cfg) (text_ret m (by omega) hfl) rfl rfl rfl st k
      have b4 := fun st k => callEv_tr (C := cfg) (rjoin_ret m.got (by omega) hfl) rfl rfl rfl st k
      have b5 := fun st k => callEv_tr (C := cfg) (ref22_ret m) rfl rfl rfl st k
      obtain ⟨k1, k2⟩ := piece_lens m i s
      generalize pieceP m i s = r at *
      obtain ⟨n, er⟩ := r
      simp only at k1 k2
      have c1 := fun hp => callQ_tr (C := cfg) (ref22_ret n) rfl hp
      have c2 := fun hp => callQ_tr (C := cfg) (same22_ret n (by omega) (by omega)) rfl hp
      simp only [pieV, mvV, bl, sl, iv, bv] at b1 b2 b3 b4 b5 c1 c2
      by_cases g1 : m.p = 2
      · have tp : textP m = true := by simp [textP, g1]
        have d1 : (m.p == 2) = true := by simp [g1]
        rw [tp] at b3
        simp [mvV, bl, sl, hs, ha, haq, d3, b1, b2, b3, b4, b5, c1, c2, d1, over]
      · have d1 : (m.p == 2) = false := by simpa using g1
        by_cases g2 : m.p = 3
        · have tp : textP m = true := by simp [textP, g2]
          have d2 : (m.p == 3) = true := by simp [g2]
          rw [tp] at b3
          simp [mvV, bl, sl, hs, ha, haq, d3, b1, b2, b3, b4, b5, c1, c2, d1, d2, over]
        · have tp : textP m = false := by simp [textP, g1, g2]
          have d2 : (m.p == 3) = false := by simpa using g2
          rw [tp] at b3
          simp [mvV, bl, sl, hs, ha, haq, d3, b1, b2, b3, b4, b5, c1, c2, d1, d2, over]
    · have d3 : decide ((100 : Int) < (s.length : Int)) = true := decide_eq_true (by omega)
      simp [mvV, bl, sl, hs, ha, d3]
  · simp [mvV, bl, sl, hs, ha, h1]

theorem reach_le : reachBytes ≤ 1000000000000000000 := by decide
theorem movePieces_ev (xs : List V) (h : ArgsFit PP 8 [48, 3, 9] xs) : ∃ hp c, runL cfg 10 xs [] 0 = some (bv true, hp, c) := by
  obtain ⟨x1, r, rfl, h1, h⟩ := argsFit_cons h
  obtain ⟨x2, r, rfl, h2, h⟩ := argsFit_cons h
  obtain ⟨x3, r, rfl, h3, h⟩ := argsFit_cons h
  cases argsFit_nil h
  obtain ⟨m, rfl, _, hg, _⟩ := a_move h1
  obtain ⟨i, rfl, _⟩ := a_int h2
  obtain ⟨s, rfl, _⟩ := a_str h3
  exact mpieces m i s (Nat.le_trans hg reach_le)
end Go.Proofs.Ythkehbdljckbdaa.Pv
