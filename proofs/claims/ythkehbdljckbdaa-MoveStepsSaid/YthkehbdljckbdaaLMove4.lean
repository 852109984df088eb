/- MoveSteps, reckoned. -/
import Derived.Test.YthkehbdljckbdaaLMove3
set_option linter.unusedVariables false
set_option linter.unusedSimpArgs false
set_option maxRecDepth 100000
namespace Go.Proofs.Ythkehbdljckbdaa.Pv
open Go Go.Pev

set_option maxHeartbeats 8000000 in
theorem msteps (e : Int) (h : List (List Int)) (x f t : Int) (s : List UInt8) (he : I64 e) : ∃ hp c, runL cfg 15 [mapV e h, iv x, iv f, iv t, .t (.s s)] [] 0 = some (bv true, hp, c) := by
  have ha := fun s k => callEv_tr (C := cfg) awake22_ret rfl rfl rfl s k
  have hs := fun s k => callEv_tr (C := cfg) (small_ret h) rfl rfl rfl s k
  simp only [bv, gl] at ha hs
  rw [runL_pf (fn := f15) rfl rfl]
  by_cases h1 : small h = true
  case neg => simp [mapV, gl, hs, ha, h1]
  rw [h1] at hs
  obtain ⟨l1, l2⟩ := small_iff.1 h1
  by_cases h3 : s.length ≤ 300
  case neg =>
    have d3 : decide ((300 : Int) < (s.length : Int)) = true := decide_eq_true (by omega)
    simp [mapV, gl, hs, ha, d3]
  have d3 : decide ((300 : Int) < (s.length : Int)) = false := decide_eq_false (by omega)
  by_cases h4 : 1073741824 < e
  · have d4 : decide (1073741824 < e) = true := decide_eq_true h4
    simp [mapV, gl, hs, ha, d3, d4]
  have d4 : decide (1073741824 < e) = false := decide_eq_false h4
  have b1 := fun st k => callEv_tr (C := cfg) (begin_ret e h x f t s (64 : Nat) (by omega) (fun r hm => by have := l2 r hm; omega) (by omega)) rfl rfl rfl st k
  rcases begin_cases e h x f t s 64 (by omega) with ⟨er, e1, e2⟩ | ⟨q1, q2, q3, q4, q5, q6⟩
  · rw [e2] at b1
    have d5 : (er != 0) = true := by simpa using e1
    have e64 : ((64 : Nat) : Int) = 64 := rfl
    rw [e64] at b1
    simp only [begV, mvV, mv0, mapV, gl, bl, sl, iv, bv, List.map_nil] at b1
    simp [mapV, gl, hs, ha, d3, d4, b1, d5, over]
  · rw [q6] at b1
    have e64 : ((64 : Nat) : Int) = 64 := rfl
    rw [e64] at b1
    have hle := fun (r : List Int) (hm : r ∈ h) => by have := l2 r hm; exact (by omega : r.length ≤ 100000)
    have hn := cut_le (k := 64) (by omega) s
    have hfl := cut_flatten (k := 64) (by omega) s
    have hz : (fill (List.replicate (cut 64 s).length false) (cut 64 s).length).length = (cut 64 s).length := by rw [fill_len (by simp)]; simp
    have hc0 : (fill (List.replicate (cut 64 s).length false) (cut 64 s).length).contains false = false := by
      have := fill_all (List.replicate (cut 64 s).length false)
      rwa [List.length_replicate] at this
    obtain ⟨c, hl⟩ := steps_loop x f t s h3 (iv x) (iv f) (iv t) (.box 24 [iv e, .t (gl h)]) (.box 24 [iv e, .t (gl h)]) (cut 64 s).length 0 7 (by omega)
    rw [fill_zero] at hl
    -- before the pieces
    have cm0 : commitP (mid x f t (crcI s) (cut 64 s) (List.replicate (cut 64 s).length false)) e h = (mid x f t (crcI s) (cut 64 s) (List.replicate (cut 64 s).length false), e, h, 1) := by
      unfold commitP
      have hp : 0 < (cut 64 s).length := by rw [cut_cons (by omega) q5]; simp
      have hcon : (List.replicate (cut 64 s).length false).contains false = true := by rw [List.contains_eq_mem]; exact decide_eq_true (List.mem_replicate.2 ⟨by omega, rfl⟩)
      rw [if_pos]
      simp only [mid, hcon, if_true]; decide
    have p0 : (mid x f t (crcI s) (cut 64 s) (List.replicate (cut 64 s).length false)).p = 1 := by
      have hp : 0 < (cut 64 s).length := by rw [cut_cons (by omega) q5]; simp
      have hcon : (List.replicate (cut 64 s).length false).contains false = true := by rw [List.contains_eq_mem]; exact decide_eq_true (List.mem_replicate.2 ⟨by omega, rfl⟩)
      simp only [mid, hcon, if_true]
    have c1 := fun st k => callEv_tr (C := cfg) (commit_ret (mid x f t (crcI s) (cut 64 s) (List.replicate (cut 64 s).length false)) e h (by omega) hle) rfl rfl rfl st k
    rw [cm0] at c1
    -- behind them
    have hM : mid x f t (crcI s) (cut 64 s) (fill (List.replicate (cut 64 s).length false) (cut 64 s).length) = ⟨x, f, t, 2, crcI s, fill (List.replicate (cut 64 s).length false) (cut 64 s).length, cut 64 s⟩ := by
      simp only [mid, hc0, gots_all hz hc0, hfl]; simp
    rw [hM] at hl
    obtain ⟨hx0, hx1⟩ : 0 ≤ x ∧ x < h.length := by
      unfold holds at q2
      simp only [Bool.and_eq_true, decide_eq_true_eq] at q2
      exact q2.1
    obtain ⟨y, rfl⟩ : ∃ y : Nat, x = y := ⟨x.toNat, by omega⟩
    have hy : y < h.length := by omega
    have hr0 := right_e q1
    have hmay : may e h y t = true := by
      simp only [may, q1, Bool.true_and, Bool.and_eq_true, decide_eq_true_eq]; omega
    have hct : h[y].contains t = !true := by rw [← holds_at hy]; exact q3
    have hrt := rturn_ok (add := true) hmay hy hct (by simp)
    have hdone := rturn_done (e := e) (h := h) (x := y) (n := t) (add := true) (by rw [hrt])
    have hoth := rturn_other (e := e) (h := h) (x := y) (n := t) (add := true) (i := y) (m := f) hy (by
      rintro ⟨_, hft⟩; rw [hft, q3] at q2; cases q2)
    have k1 := rturn_len (e := e) (h := h) y t true
    have k3 := rturn_rows (e := e) (h := h) (b := 1000) (by omega) (fun r hm => by have := l2 r hm; omega) y t true
    have c2 := fun st k => callEv_tr (C := cfg) (commit_ret ⟨(y : Int), f, t, 2, crcI s, fill (List.replicate (cut 64 s).length false) (cut 64 s).length, cut 64 s⟩ e h (by omega) hle) rfl rfl rfl st k
    unfold commitP at c2
    rw [if_neg (by simp), if_neg (by simp only; rw [hrt]; simp)] at c2
    simp only at c2
    rw [q2] at hoth
    generalize rturn e h y t true = rr at *
    obtain ⟨e2, g2, t2⟩ := rr
    simp only at hdone hoth k1 k3 c2
    obtain ⟨rfl, _, hd3, _⟩ := hdone
    have c3 := fun st k => callEv_tr (C := cfg) (commit_ret ⟨(y : Int), f, t, 3, crcI s, fill (List.replicate (cut 64 s).length false) (cut 64 s).length, cut 64 s⟩ (e + 1) g2 (by omega) (fun r hm => by have := k3 r hm; omega)) rfl rfl rfl st k
    unfold commitP at c3
    rw [if_pos (by simp)] at c3
    have c4 := fun st k => callEv_tr (C := cfg) (abort_ret ⟨(y : Int), f, t, 3, crcI s, fill (List.replicate (cut 64 s).length false) (cut 64 s).length, cut 64 s⟩) rfl rfl rfl st k
    unfold abortP at c4
    rw [if_pos rfl] at c4
    have c5 := fun st k => callEv_tr (C := cfg) (text_ret ⟨(y : Int), f, t, 3, crcI s, fill (List.replicate (cut 64 s).length false) (cut 64 s).length, cut 64 s⟩ (by simp only; omega) (by simp only; rw [hfl]; omega)) rfl rfl rfl st k
    simp only [textP, hfl] at c5
    have c6 := fun st k => callEv_tr (C := cfg) (holds_ret (e + 1) g2 y t (fun r hm => by have := k3 r hm; omega)) rfl rfl rfl st k
    have c7 := fun st k => callEv_tr (C := cfg) (holds_ret (e + 1) g2 y f (fun r hm => by have := k3 r hm; omega)) rfl rfl rfl st k
    rw [hd3] at c6
    rw [hoth] at c7
    have hw : IntKind.i64.wrap (e + 1) = e + 1 := wrap_id (by have := he.1; omega) (by omega)
    generalize fill (List.replicate (cut 64 s).length false) (cut 64 s).length = hz2 at *
    generalize mid (y : Int) f t (crcI s) (cut 64 s) (List.replicate (cut 64 s).length false) = mm at *
    generalize cut 64 s = l at *
    generalize crcI s = cr at *
    simp only [begV, comV, pieV, mcs, mvV, mapV, gl, bl, sl, iv, bv, p0, Int.natCast_zero] at b1 c1 c2 c3 c4 c5 c6 c7 hl
    simp at c5
    simp [mapV, gl, hs, ha, d3, d4, b1, c1, c2, c3, c4, c5, c6, c7, hl, over, p0, hw, apart]

theorem moveSteps_ev (xs : List V) (h : ArgsFit PP 8 [24, 3, 3, 3, 9] xs) : ∃ hp c, runL cfg 15 xs [] 0 = some (bv true, hp, c) := by
  obtain ⟨x1, r, rfl, h1, h⟩ := argsFit_cons h
  obtain ⟨x2, r, rfl, h2, h⟩ := argsFit_cons h
  obtain ⟨x3, r, rfl, h3, h⟩ := argsFit_cons h
  obtain ⟨x4, r, rfl, h4, h⟩ := argsFit_cons h
  obtain ⟨x5, r, rfl, h5, h⟩ := argsFit_cons h
  cases argsFit_nil h
  obtain ⟨e, l, rfl, he, _⟩ := a_map h1
  obtain ⟨x, rfl, _⟩ := a_int h2
  obtain ⟨f, rfl, _⟩ := a_int h3
  obtain ⟨t, rfl, _⟩ := a_int h4
  obtain ⟨s, rfl, _⟩ := a_str h5
  exact msteps e l x f t s he
end Go.Proofs.Ythkehbdljckbdaa.Pv
