/- PlacePicks, PlaceBack, PlaceOthers, reckoned. -/
import Derived.Test.YthkehbdljckbdaaLTurns
import Derived.Test.YthkehbdljckbdaaPMap2
import Derived.Test.YthkehbdljckbdaaSHas
set_option linter.unusedVariables false
set_option linter.unusedSimpArgs false
set_option maxRecDepth 100000
namespace Go.Proofs.Ythkehbdljckbdaa.Pv
open Go Go.Pev

set_option maxHeartbeats 4000000 in
theorem pback (e : Int) (h : List (List Int)) (x n : Int) (he : I64 e) : ∃ hp c, runL cfg 5 [mapV e h, iv x, iv n] [] 0 = some (bv true, hp, c) := by
  have ha := fun s k => callEv_tr (C := cfg) awake17_ret rfl rfl rfl s k
  have hs := fun s k => callEv_tr (C := cfg) (small_ret h) rfl rfl rfl s k
  simp only [bv, gl] at ha hs
  rw [runL_pf (fn := f5) rfl rfl]
  by_cases h1 : small h = true
  · rw [h1] at hs
    obtain ⟨l1, l2⟩ := small_iff.1 h1
    by_cases hbig : 1073741824 < e
    · simp [mapV, gl, hs, ha, hbig]
    · have h2 := fun s k => callEv_tr (C := cfg) (add_ret e h x n (by omega) (fun r hm => by have := l2 r hm; omega)) rfl rfl rfl s k
      have k1 := rturn_len (e := e) (h := h) x n true
      have k3 := rturn_rows (e := e) (h := h) (b := 1000) (by omega) (fun r hm => by have := l2 r hm; omega) x n true
      have kb := rturn_back (e := e) (h := h) (x := x) (n := n) (by omega)
      have kd := rturn_done (e := e) (h := h) (x := x) (n := n) (add := true)
      have kn := rturn_not (e := e) (h := h) (x := x) (n := n) (add := true)
      generalize rturn e h x n true = p at *
      obtain ⟨e1, g1, t1⟩ := p
      have h3 := fun s k => callEv_tr (C := cfg) (retire_ret e1 g1 x n (by simp only at k1; omega) (fun r hm => by have := k3 r hm; omega)) rfl rfl rfl s k
      simp only at kb kd kn
      by_cases ht : t1 = 0
      · subst ht
        have h4 := fun s k => callEv_tr (C := cfg) (same15_ret h h (by omega) (fun r hm => by have := l2 r hm; omega)) rfl rfl rfl s k
        obtain ⟨rfl, _⟩ := kd rfl
        rw [kb rfl] at h3
        have hw : IntKind.i64.wrap (e + 2) = e + 2 := wrap_id (by have := he.1; omega) (by omega)
        simp only [mapV, gl, il, iv, bv] at h2 h3 h4
        simp at h4
        simp [mapV, gl, hs, ha, h2, h3, h4, hbig, over, hw]
      · obtain ⟨rfl, rfl⟩ := kn ht
        generalize rturn e1 g1 x n false = q at *
        obtain ⟨e2, g2, t2⟩ := q
        have htb : (t1 != 0) = true := by simpa using ht
        simp only [mapV, gl, il, iv, bv] at h2 h3
        simp [mapV, gl, hs, ha, h2, h3, hbig, over, htb]
  · simp [mapV, gl, hs, ha, h1]

theorem placeBack_ev (xs : List V) (h : ArgsFit PP 8 [24, 3, 3] xs) : ∃ hp c, runL cfg 5 xs [] 0 = some (bv true, hp, c) := by
  obtain ⟨x1, r, rfl, h1, h⟩ := argsFit_cons h
  obtain ⟨x2, r, rfl, h2, h⟩ := argsFit_cons h
  obtain ⟨x3, r, rfl, h3, h⟩ := argsFit_cons h
  cases argsFit_nil h
  obtain ⟨e, l, rfl, he, _⟩ := a_map h1
  obtain ⟨x, rfl, _⟩ := a_int h2
  obtain ⟨n, rfl, _⟩ := a_int h3
  exact pback e l x n he

set_option maxHeartbeats 4000000 in
theorem ppicks (e : Int) (h : List (List Int)) (x n key : Int) (hx : I64 x) : ∃ hp c, runL cfg 7 [mapV e h, iv x, iv n, iv key] [] 0 = some (bv true, hp, c) := by
  have ha := fun s k => callEv_tr (C := cfg) awake17_ret rfl rfl rfl s k
  have haq := fun hp => callQ_tr (C := cfg) awake17_ret rfl hp
  have hs := fun s k => callEv_tr (C := cfg) (small_ret h) rfl rfl rfl s k
  simp only [bv, gl] at ha hs haq
  rw [runL_pf (fn := f7) rfl rfl]
  by_cases h1 : small h = true
  · rw [h1] at hs
    obtain ⟨l1, l2⟩ := small_iff.1 h1
    have h2 := fun s k => callEv_tr (C := cfg) (ppick_ret e h x key (by omega) (fun r hm => by have := l2 r hm; omega)) rfl rfl rfl s k
    have h3 := fun s k => callEv_tr (C := cfg) (rright_ret e h (by omega) (fun r hm => by have := l2 r hm; omega)) rfl rfl rfl s k
    have h4 := fun s k => callEv_tr (C := cfg) (pright_ret e h (by omega) (fun r hm => by have := l2 r hm; omega)) rfl rfl rfl s k
    have h5 := fun s k => callEv_tr (C := cfg) (holds_ret e h x n (fun r hm => by have := l2 r hm; omega)) rfl rfl rfl s k
    by_cases q1 : 0 ≤ x
    · by_cases q2 : x < h.length
      · obtain ⟨y, rfl⟩ : ∃ y : Nat, x = y := ⟨x.toNat, by omega⟩
        have hy : y < h.length := by omega
        have h6 := fun s k => callEv_tr (C := cfg) (has_ret h[y] n (by have := l2 _ (List.getElem_mem hy); omega)) rfl rfl rfl s k
        have hgd : h.getD y [] = h[y] := by simp [List.getD_eq_getElem?_getD, List.getElem?_eq_getElem hy]
        rw [holds_c q1 q2, Int.toNat_natCast, hgd] at h5
        have hw : IntKind.i64.wrap ((h.length : Int) - 1) = (h.length : Int) - 1 := wrap_id (by omega) (by omega)
        have hm1 : ¬ (h.length : Int) - 1 < (y : Int) := by omega
        have hm2 : ¬ (y : Int) < 0 := by omega
        by_cases q3 : right e h = true
        · by_cases q4 : 0 ≤ key
          · obtain ⟨ky, rfl⟩ : ∃ y : Nat, key = y := ⟨key.toNat, by omega⟩
            have hne := (right_row' q3 (List.getElem_mem hy)).2
            have hpos : 0 < h[y].length := List.length_pos_iff.2 hne
            have hlt : ky % h[y].length < h[y].length := Nat.mod_lt _ hpos
            have htm : ((ky : Int)).tmod (h[y].length : Int) = ((ky % h[y].length : Nat) : Int) := by
              rw [Int.tmod_eq_emod_of_nonneg (by omega)]; rfl
            have hpk : ppick e h y ky = (h[y].getD (ky % h[y].length) 0, true) := by
              unfold ppick
              rw [if_pos ⟨q3, q1, q2, q4⟩]
              simp only [Int.toNat_natCast, hgd]
            rw [hpk] at h2
            have h7 := fun hp => callQ_tr (C := cfg) (holds_ret e h y (h[y].getD (ky % h[y].length) 0) (fun r hm => by have := l2 r hm; omega)) rfl hp
            rw [holds_c q1 q2, Int.toNat_natCast, hgd] at h7
            generalize ky % h[y].length = m at *
            have hgm : h[y].getD m 0 = h[y][m] := by simp [List.getD_eq_getElem?_getD, List.getElem?_eq_getElem hlt]
            have hcm : h[y].contains h[y][m] = true := by simp
            rw [hgm] at h2 h7
            rw [hcm] at h7
            have d1 : decide ((ky : Int) < 0) = false := decide_eq_false (by omega)
            simp only [mapV, gl, il, iv, bv, q3] at h2 h3 h4 h5 h6 h7
            simp [mapV, gl, hs, ha, haq, h2, h3, h4, h5, h6, h7, hy, hw, minmax, hm1, hm2, d1, htm, hlt, hne]
          · have hpk : ppick e h y key = (0, false) := by unfold ppick; rw [if_neg (by simp [q4])]
            rw [hpk] at h2
            have d1 : decide (key < 0) = true := decide_eq_true (by omega)
            simp only [mapV, gl, il, iv, bv, q3] at h2 h3 h4 h5 h6
            simp [mapV, gl, hs, ha, haq, h2, h3, h4, h5, h6, hy, hw, minmax, hm1, hm2, d1]
        · have q3 : right e h = false := by simpa using q3
          have hpk : ppick e h y key = (0, false) := by unfold ppick; rw [if_neg (by simp [q3])]
          rw [hpk] at h2
          simp only [mapV, gl, il, iv, bv, q3] at h2 h3 h4 h5 h6
          simp [mapV, gl, hs, ha, haq, h2, h3, h4, h5, h6, hy, hw, minmax, hm1, hm2]
      · have hpk : ppick e h x key = (0, false) := by unfold ppick; rw [if_neg (by simp [q2])]
        have hho : holds h x n = false := by simp [holds, q2]
        rw [hpk] at h2
        rw [hho] at h5
        have d1 : decide (x < h.length) = false := decide_eq_false q2
        generalize right e h = b at *
        simp only [mapV, gl, il, iv, bv] at h2 h3 h4 h5
        cases b <;> simp [mapV, gl, hs, ha, haq, h2, h3, h4, h5, q1, d1]
    · have hpk : ppick e h x key = (0, false) := by unfold ppick; rw [if_neg (by simp [q1])]
      have hho : holds h x n = false := by simp [holds, q1]
      rw [hpk] at h2
      rw [hho] at h5
      have d1 : decide (0 ≤ x) = false := decide_eq_false q1
      generalize right e h = b at *
      simp only [mapV, gl, il, iv, bv] at h2 h3 h4 h5
      cases b <;> simp [mapV, gl, hs, ha, haq, h2, h3, h4, h5, d1]
  · simp [mapV, gl, hs, ha, h1]

theorem placePicks_ev (xs : List V) (h : ArgsFit PP 8 [24, 3, 3, 3] xs) : ∃ hp c, runL cfg 7 xs [] 0 = some (bv true, hp, c) := by
  obtain ⟨x1, r, rfl, h1, h⟩ := argsFit_cons h
  obtain ⟨x2, r, rfl, h2, h⟩ := argsFit_cons h
  obtain ⟨x3, r, rfl, h3, h⟩ := argsFit_cons h
  obtain ⟨x4, r, rfl, h4, h⟩ := argsFit_cons h
  cases argsFit_nil h
  obtain ⟨e, l, rfl, he, _⟩ := a_map h1
  obtain ⟨x, rfl, hx⟩ := a_int h2
  obtain ⟨n, rfl, _⟩ := a_int h3
  obtain ⟨key, rfl, _⟩ := a_int h4
  exact ppicks e l x n key hx
end Go.Proofs.Ythkehbdljckbdaa.Pv
