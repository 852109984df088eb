/- PortReceives, reckoned. -/
import Derived.Test.YtfclnkhhabiheaaSRef2
import Derived.Test.YtfclnkhhabiheaaArgsP
set_option linter.unusedVariables false
set_option linter.unusedSimpArgs false
set_option maxRecDepth 100000
namespace Go.Proofs.Ytfclnkhhabiheaa.Pv
open Go Go.Pev

theorem u_frame : structT PP 80 = some [3, 9] := by kernel_rfl
theorem u_frames : PP.underlying 33 = some (.slice 80) := by kernel_rfl
theorem u_port : structT PP 40 = some [35, 38] := by kernel_rfl
theorem u_link : structT PP 35 = some [3, 33] := by kernel_rfl
theorem u_win : structT PP 38 = some [3, 36] := by kernel_rfl
theorem f_frame {k : Nat} (c : List T) (h : Fits PP (k + 2) 80 c) : ∃ f : Fr, c = [.i .i64 f.1, .s f.2] ∧ I64 f.1 := by
  have h0 := fits_struct u_frame h
  obtain ⟨n, r1, rfl, h1, g1⟩ := fitsT_cons f_int h0
  obtain ⟨s, r2, rfl, h2, g2⟩ := fitsT_cons (fun c h => fits_string u_str h) g1
  cases g2
  exact ⟨(n, s), rfl, h1⟩
theorem f_frames {k : Nat} (c : List T) (h : Fits PP (k + 3) 33 c) : ∃ l : List Fr, c = [fl l] ∧ True := by
  obtain ⟨l, rfl, _, _⟩ := fits_slice (mk := fun f : Fr => [.i .i64 f.1, .s f.2]) (Q := fun f => I64 f.1) u_frames f_frame h
  exact ⟨l, rfl, trivial⟩
theorem f_link {k : Nat} (c : List T) (h : Fits PP (k + 4) 35 c) : ∃ x : Int × List Fr, c = [.i .i64 x.1, fl x.2] ∧ I64 x.1 := by
  have h0 := fits_struct u_link h
  obtain ⟨n, r1, rfl, h1, g1⟩ := fitsT_cons f_int h0
  obtain ⟨l, r2, rfl, h2, g2⟩ := fitsT_cons f_frames g1
  cases g2
  exact ⟨(n, l), rfl, h1⟩
theorem f_win {k : Nat} (c : List T) (h : Fits PP (k + 3) 38 c) : ∃ x : Int × List Int, c = [.i .i64 x.1, il x.2] ∧ (I64 x.1 ∧ ∀ n ∈ x.2, I64 n) := by
  have h0 := fits_struct u_win h
  obtain ⟨n, r1, rfl, h1, g1⟩ := fitsT_cons f_int h0
  obtain ⟨l, r2, rfl, h2, g2⟩ := fitsT_cons f_ints g1
  cases g2
  exact ⟨(n, l), rfl, h1, h2⟩
theorem a_port {k : Nat} {x : V} (h : ArgFit PP (k + 5) 40 x) : ∃ p : Prt, x = prV p ∧ I64 p.low ∧ ∀ n ∈ p.seen, I64 n := by
  obtain ⟨ts, rfl, h0⟩ := argFit_struct u_port h
  obtain ⟨a, r1, rfl, h1, g1⟩ := fitsT_cons f_link h0
  obtain ⟨b, r2, rfl, h2, g2⟩ := fitsT_cons f_win g1
  cases g2
  exact ⟨⟨a.1, a.2, b.1, b.2⟩, rfl, h2.1, h2.2⟩

theorem adv_len : ∀ (l : List Int) (low : Int), (adv low l).2.length ≤ l.length
  | [], low => by simp [adv]
  | x :: r, low => by
    unfold adv
    split
    · have := adv_len r (low + 1); simp only [List.length_cons]; omega
    · exact Nat.le_refl _
theorem acc_short {low : Int} {l : List Int} {n : Int} (h : (acc low l n).2.2 = true) : (acc low l n).2.1.length ≤ 33 := by
  unfold acc at h ⊢
  split at h
  · rename_i hc
    rw [if_pos hc]
    have h1 := adv_len (over32 low (ins n l)).2 (over32 low (ins n l)).1
    have h2 : l.length ≤ 32 := by
      have := hc.1
      simp only [wright, Bool.and_eq_true, decide_eq_true_eq] at this
      omega
    have h3 : (over32 low (ins n l)).2.length ≤ 33 := by
      have h4 := ins_len n l
      unfold over32
      split
      · simp only [List.length_tail]; omega
      · simp only; omega
    simp only
    omega
  · cases h

set_option maxHeartbeats 8000000 in
theorem receives (p : Prt) (s : List UInt8) (hlow : I64' p.low) (hn : ∀ n ∈ p.seen, I64' n) : ∃ hp c, runL cfg 4 [prV p, .t (.s s)] [] 0 = some (bv true, hp, c) := by
  have ha := fun s k => callEv_tr (C := cfg) awake_ret rfl rfl rfl s k
  have haq := fun hp => callQ_tr (C := cfg) awake_ret rfl hp
  obtain ⟨p1, hr1, hp1⟩ := ref_ret p
  have hA := fun s k => callEv_tr (C := cfg) hr1 rfl rfl rfl s k
  rw [runL_pf (fn := f4) rfl rfl]
  by_cases hok : refOk p = true
  case neg =>
    rw [Bool.not_eq_true] at hok
    rw [hok] at hA
    simp only [prV, fl, il, iv, bv] at ha haq hA
    simp [prV, fl, il, ha, haq, hA, over]
  obtain rfl := hp1 hok
  rw [hok] at hA
  by_cases hs : s.length ≤ 200
  case neg =>
    have d1 : decide ((200 : Int) < (s.length : Int)) = true := decide_eq_true (by omega)
    simp only [prV, fl, il, iv, bv] at ha haq hA
    simp [prV, fl, il, ha, haq, hA, d1, over]
  have d1 : decide ((200 : Int) < (s.length : Int)) = false := decide_eq_false (by omega)
  have hok2 := hok
  simp only [refOk, Bool.and_eq_true, decide_eq_true_eq, List.all_eq_true] at hok2
  obtain ⟨⟨o1, o2⟩, o3⟩ := hok2
  have hrv := fun st k => callEv_tr (C := cfg) (recv_ret p1 s (by omega) (by omega) hlow (by omega) hn) rfl rfl rfl st k
  have hun := fun st k => callEv_tr (C := cfg) (runpack_ret s (by omega)) rfl rfl rfl st k
  unfold recvP at hrv
  generalize unpackP s = u at *
  obtain ⟨k, n, t, e⟩ := u
  simp only [unpV] at hun
  simp at hun
  simp only at hrv
  have hsame := fun st kk => callEv_tr (C := cfg) (psame_ret p1 p1 (by omega) (by omega)) rfl rfl rfl st kk
  rw [decide_eq_true rfl] at hsame
  by_cases he : e = 0
  case neg =>
    rw [if_pos he] at hrv
    have de : (e != 0) = true := by simp [bne, he]
    generalize k.toNat = kn at *
    simp only [recvV, prV, fl, il, iv, bv] at ha haq hA hrv hsame
    simp [prV, fl, il, ha, haq, hA, hrv, hun, hsame, d1, de, he, over]
  subst he
  rw [if_neg (by simp)] at hrv
  have ek := k65 k
  by_cases hk : k = 65
  · subst hk
    rw [if_pos rfl] at hrv
    obtain ⟨p2, hr2, hp2⟩ := ref_ret { p1 with q := p1.q.filter (keepF n) }
    have hok3 : refOk { p1 with q := p1.q.filter (keepF n) } = true := by
      simp only [refOk, Bool.and_eq_true, decide_eq_true_eq, List.all_eq_true]
      have := List.length_filter_le (keepF n) p1.q
      exact ⟨⟨by omega, o2⟩, fun f hf => o3 f (List.mem_filter.1 hf).1⟩
    obtain rfl := hp2 hok3
    rw [hok3] at hr2
    have hB := fun s k => callEv_tr (C := cfg) hr2 rfl rfl rfl s k
    have htl := fun s k => callEv_tr (C := cfg) (rtold_ret p1.next n p1.q (by omega)) rfl rfl rfl s k
    have hsame2 := fun st kk => callEv_tr (C := cfg) (psame_ret { p1 with q := p1.q.filter (keepF n) } { p1 with q := p1.q.filter (keepF n) } (by have := List.length_filter_le (keepF n) p1.q; simp only; omega) (by simp only; omega)) rfl rfl rfl st kk
    rw [decide_eq_true rfl] at hsame2
    obtain ⟨pn, pq, pl, ps⟩ := p1
    simp only at hB htl hsame2 hrv hA
    generalize pq.filter (keepF n) = q2 at *
    simp only [recvV, prV, fl, il, iv, bv] at ha haq hA hrv hsame2 hB htl
    simp [prV, fl, il, ha, haq, hA, hrv, hun, hsame2, hB, htl, d1, over, (show ((65 : UInt8).toNat : Int) = 65 from rfl)]
  rw [if_neg hk] at hrv
  have dk : ((k.toNat : Int) == 65) = false := by rw [ek]; exact decide_eq_false hk
  have hac := fun st kk => callEv_tr (C := cfg) (raccept_ret p1.low p1.seen n (by omega)) rfl rfl rfl st kk
  have hpk := fun st kk => callEv_tr (C := cfg) (rpack_ret 65 n [] (by simp)) rfl rfl rfl st kk
  have hB := fun s k => callEv_tr (C := cfg) hr1 rfl rfl rfl s k
  rw [hok] at hB
  by_cases hf : (acc p1.low p1.seen n).2.2 = true
  · rw [if_pos hf] at hrv
    obtain ⟨p2, hr2, hp2⟩ := ref_ret { p1 with low := (acc p1.low p1.seen n).1, seen := (acc p1.low p1.seen n).2.1 }
    have hln := acc_short hf
    have hok3 : refOk { p1 with low := (acc p1.low p1.seen n).1, seen := (acc p1.low p1.seen n).2.1 } = true := by
      simp only [refOk, Bool.and_eq_true, decide_eq_true_eq, List.all_eq_true]
      exact ⟨⟨o1, by omega⟩, o3⟩
    obtain rfl := hp2 hok3
    rw [hok3] at hr2
    have hC := fun s k => callEv_tr (C := cfg) hr2 rfl rfl rfl s k
    have hsame2 := fun st kk => callEv_tr (C := cfg) (psame_ret { p1 with low := (acc p1.low p1.seen n).1, seen := (acc p1.low p1.seen n).2.1 } { p1 with low := (acc p1.low p1.seen n).1, seen := (acc p1.low p1.seen n).2.1 } (by simp only; omega) (by simp only; omega)) rfl rfl rfl st kk
    rw [decide_eq_true rfl] at hsame2
    obtain ⟨pn, pq, pl, ps⟩ := p1
    simp only at hC hsame2 hrv hA hac hf
    generalize acc pl ps n = r at *
    obtain ⟨rl, rs, rb⟩ := r
    simp only at hf
    subst hf
    generalize packR 65 n [] = pk at *
    generalize k.toNat = kn at *
    simp only [recvV, prV, accV, fl, il, iv, bv] at ha haq hA hrv hsame2 hC hac hpk
    simp at hpk
    simp [prV, fl, il, ha, haq, hA, hrv, hun, hsame2, hC, hac, hpk, d1, dk, over]
  · rw [if_neg hf] at hrv
    have hf0 : (acc p1.low p1.seen n).2.2 = false := by simpa using hf
    have hsame2 := hsame
    obtain ⟨pn, pq, pl, ps⟩ := p1
    simp only at hsame2 hrv hA hac hf0
    generalize acc pl ps n = r at *
    obtain ⟨rl, rs, rb⟩ := r
    simp only at hf0
    subst hf0
    generalize packR 65 n [] = pk at *
    generalize k.toNat = kn at *
    simp only [recvV, prV, accV, fl, il, iv, bv] at ha haq hA hrv hsame2 hac hpk
    simp at hpk
    simp [prV, fl, il, ha, haq, hA, hrv, hun, hsame2, hac, hpk, d1, dk, over]

theorem portReceives_ev (xs : List V) (h : ArgsFit PP 8 [40, 9] xs) : ∃ hp c, runL cfg 4 xs [] 0 = some (bv true, hp, c) := by
  obtain ⟨x1, r, rfl, h1, h⟩ := argsFit_cons h
  obtain ⟨x2, r, rfl, h2, h⟩ := argsFit_cons h
  cases argsFit_nil h
  obtain ⟨p, rfl, i1, i2⟩ := a_port h1
  obtain ⟨s, rfl, _⟩ := a_str h2
  exact receives p s i1 i2
end Go.Proofs.Ytfclnkhhabiheaa.Pv
