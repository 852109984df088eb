/- MoveEnds, reckoned. -/
import Derived.Test.YthkehbdljckbdaaLMove1
import Derived.Test.YthkehbdljckbdaaLTurns
set_option linter.unusedVariables false
set_option linter.unusedSimpArgs false
set_option maxRecDepth 100000
namespace Go.Proofs.Ythkehbdljckbdaa.Pv
open Go Go.Pev

set_option maxHeartbeats 8000000 in
theorem mends (m : Mv) (e : Int) (h : List (List Int)) (hgl : m.got.length ≤ 1000000000000000000) : ∃ hp c, runL cfg 14 [mvV m, mapV e h] [] 0 = some (bv true, hp, c) := by
  have ha := fun s k => callEv_tr (C := cfg) awake22_ret rfl rfl rfl s k
  have haq := fun hp => callQ_tr (C := cfg) awake22_ret rfl hp
  have hs := fun s k => callEv_tr (C := cfg) (small_ret h) rfl rfl rfl s k
  have hsm := fun s k => callEv_tr (C := cfg) (small22_ret m hgl) rfl rfl rfl s k
  have hab := fun s k => callEv_tr (C := cfg) (abort_ret m) rfl rfl rfl s k
  have rq := fun n hp => callQ_tr (C := cfg) (ref22_ret n) rfl hp
  have re := fun n s k => callEv_tr (C := cfg) (ref22_ret n) rfl rfl rfl s k
  obtain ⟨x, f, t, p, sm, has, got⟩ := m
  have rq' := fun p => rq ⟨x, f, t, p, sm, has, got⟩
  have re' := fun p => re ⟨x, f, t, p, sm, has, got⟩
  simp only [bv, mvV, pieV, bl, sl, iv, gl] at ha haq hs hsm rq' re'
  rw [runL_pf (fn := f14) rfl rfl]
  by_cases h1 : small22 ⟨x, f, t, p, sm, has, got⟩ = true
  case neg => simp [mvV, bl, sl, mapV, gl, hsm, ha, h1]
  rw [h1] at hsm
  obtain ⟨l1, l2, l3⟩ := small22_p h1
  simp only at l1 l2 l3
  by_cases h2 : small h = true
  case neg => simp [mvV, bl, sl, mapV, gl, hsm, hs, ha, h2]
  rw [h2] at hs
  obtain ⟨m1, m2⟩ := small_iff.1 h2
  have sq := fun p hp => callQ_tr (C := cfg) (same22_ret ⟨x, f, t, p, sm, has, got⟩ (by simp only; omega) (by simp only; omega)) rfl hp
  have se := fun p s k => callEv_tr (C := cfg) (same22_ret ⟨x, f, t, p, sm, has, got⟩ (by simp only; omega) (by simp only; omega)) rfl rfl rfl s k
  have cc := fun s k => callEv_tr (C := cfg) (commit_ret ⟨x, f, t, p, sm, has, got⟩ e h (by omega) (fun r hm => by have := m2 r hm; omega)) rfl rfl rfl s k
  have ad := fun s k => callEv_tr (C := cfg) (add_ret e h x t (by omega) (fun r hm => by have := m2 r hm; omega)) rfl rfl rfl s k
  have s15 := fun hp => callQ_tr (C := cfg) (same15_ret h h (by omega) (fun r hm => by have := m2 r hm; omega)) rfl hp
  have s15e := fun s k => callEv_tr (C := cfg) (same15_ret h h (by omega) (fun r hm => by have := m2 r hm; omega)) rfl rfl rfl s k
  have k1 := rturn_len (e := e) (h := h) x t true
  have k3 := rturn_rows (e := e) (h := h) (b := 1000) (by omega) (fun r hm => by have := m2 r hm; omega) x t true
  unfold commitP at cc
  unfold abortP at hab
  simp only at cc hab
  generalize rturn e h x t true = r at *
  obtain ⟨e1, g1, t1⟩ := r
  simp only at k1 k3 cc ad
  have s15g := fun hp => callQ_tr (C := cfg) (same15_ret g1 g1 (by omega) (fun r hm => by have := k3 r hm; omega)) rfl hp
  have s15ge := fun s k => callEv_tr (C := cfg) (same15_ret g1 g1 (by omega) (fun r hm => by have := k3 r hm; omega)) rfl rfl rfl s k
  by_cases p3 : p = 3
  · subst p3
    rw [if_pos (by decide)] at cc
    rw [if_pos rfl] at hab
    simp only [comV, pieV, mvV, mapV, bl, sl, gl, il, iv, bv] at hab cc ad s15 s15e sq se
    simp at s15 s15e
    simp [mvV, bl, sl, mapV, gl, hsm, hs, ha, haq, hab, cc, ad, rq', re', sq, se, s15, s15e, over, apart]
  · rw [if_neg p3] at hab
    have d3 : (p == 3) = false := by simpa using p3
    by_cases p2 : p = 2
    · subst p2
      rw [if_neg (by decide)] at cc
      by_cases t0 : t1 = 0
      · subst t0
        rw [if_neg (by decide)] at cc
        simp only [comV, pieV, mvV, mapV, bl, sl, gl, il, iv, bv] at hab cc ad s15g s15ge sq se
        simp at s15g s15ge
        simp [mvV, bl, sl, mapV, gl, hsm, hs, ha, haq, hab, cc, ad, rq', re', sq, se, s15g, s15ge, over, apart]
      · rw [if_pos t0] at cc
        have d0 : (t1 == 0) = false := by simpa using t0
        have d0' : (t1 != 0) = true := by simpa using t0
        simp only [comV, pieV, mvV, mapV, bl, sl, gl, il, iv, bv] at hab cc ad s15 s15e sq se
        simp at s15 s15e
        simp [mvV, bl, sl, mapV, gl, hsm, hs, ha, haq, hab, cc, ad, rq', re', sq, se, s15, s15e, d0, d0', over, apart]
    · rw [if_pos p2] at cc
      have d2 : (p == 2) = false := by simpa using p2
      have d2' : (p != 2) = true := by simpa using p2
      simp only [comV, pieV, mvV, mapV, bl, sl, gl, il, iv, bv] at hab cc ad s15 s15e sq se
      simp at s15 s15e
      simp [mvV, bl, sl, mapV, gl, hsm, hs, ha, haq, hab, cc, ad, rq', re', sq, se, s15, s15e, d2, d2', d3, over, apart]

theorem moveEnds_ev (xs : List V) (h : ArgsFit PP 8 [48, 24] xs) : ∃ hp c, runL cfg 14 xs [] 0 = some (bv true, hp, c) := by
  obtain ⟨x1, r, rfl, h1, h⟩ := argsFit_cons h
  obtain ⟨x2, r, rfl, h2, h⟩ := argsFit_cons h
  cases argsFit_nil h
  obtain ⟨m, rfl, _, hg, _⟩ := a_move h1
  obtain ⟨e, l, rfl, _, _⟩ := a_map h2
  exact mends m e l (Nat.le_trans hg reach_le)
end Go.Proofs.Ythkehbdljckbdaa.Pv
