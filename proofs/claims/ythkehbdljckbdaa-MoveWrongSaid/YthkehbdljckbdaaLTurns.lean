/- PlaceTurns and PlacePicks, reckoned. -/
import Derived.Test.YthkehbdljckbdaaSLaw17
import Derived.Test.YthkehbdljckbdaaArgsM
set_option linter.unusedVariables false
set_option linter.unusedSimpArgs false
set_option maxRecDepth 100000
namespace Go.Proofs.Ythkehbdljckbdaa.Pv
open Go Go.Pev

/-- What Add and Retire make of a short map is short. -/
theorem rturn_len {e : Int} {h : List (List Int)} (x n : Int) (add : Bool) : (rturn e h x n add).2.1.length = h.length := by
  unfold rturn
  split
  · rfl
  · split
    · rfl
    · split
      · rfl
      · split
        · rfl
        · simp
theorem trow_len (p : Int → Bool) : ∀ (k j : Nat), (trow p k j).length ≤ k
  | 0, _ => Nat.le_refl _
  | k + 1, j => by
    have := trow_len p k (j + 1)
    simp only [trow, List.length_append]
    split <;> simp <;> omega
theorem rturn_rows {e : Int} {h : List (List Int)} {b : Nat} (hb : 4 ≤ b) (hr : ∀ r ∈ h, r.length ≤ b) (x n : Int) (add : Bool) : ∀ r ∈ (rturn e h x n add).2.1, r.length ≤ b := by
  unfold rturn
  split
  · exact hr
  · split
    · exact hr
    · split
      · exact hr
      · split
        · exact hr
        · intro r hm
          obtain ⟨i, _, rfl⟩ := List.mem_map.1 hm
          have := trow_len (tst (h.getD i []) ((i : Int) == x) n add) 4 1
          simp only [nrow]
          omega

set_option maxHeartbeats 4000000 in
theorem pturns (e : Int) (h : List (List Int)) (x n : Int) : ∃ hp c, runL cfg 3 [mapV e h, iv x, iv n] [] 0 = some (bv true, hp, c) := by
  have ha := fun s k => callEv_tr (C := cfg) awake17_ret rfl rfl rfl s k
  have hs := fun s k => callEv_tr (C := cfg) (small_ret h) rfl rfl rfl s k
  simp only [bv, gl] at ha hs
  rw [runL_pf (fn := f3) rfl rfl]
  by_cases h1 : small h = true
  · rw [h1] at hs
    obtain ⟨l1, l2⟩ := small_iff.1 h1
    have h2 := fun s k => callEv_tr (C := cfg) (add_ret e h x n (by omega) (fun r hm => by have := l2 r hm; omega)) rfl rfl rfl s k
    have h3 := fun s k => callEv_tr (C := cfg) (retire_ret e h x n (by omega) (fun r hm => by have := l2 r hm; omega)) rfl rfl rfl s k
    have h4 := fun s k => callEv_tr (C := cfg) (rturn_ret e h x n true (by omega) (fun r hm => by have := l2 r hm; omega)) rfl rfl rfl s k
    have h5 := fun s k => callEv_tr (C := cfg) (rturn_ret e h x n false (by omega) (fun r hm => by have := l2 r hm; omega)) rfl rfl rfl s k
    have k1 := rturn_len (e := e) (h := h) x n true
    have k2 := rturn_len (e := e) (h := h) x n false
    have k3 := rturn_rows (e := e) (h := h) (b := 1000) (by omega) (fun r hm => by have := l2 r hm; omega) x n true
    have k4 := rturn_rows (e := e) (h := h) (b := 1000) (by omega) (fun r hm => by have := l2 r hm; omega) x n false
    generalize rturn e h x n true = p at *
    generalize rturn e h x n false = q at *
    obtain ⟨e1, g1, t1⟩ := p
    obtain ⟨e2, g2, t2⟩ := q
    have h6 := fun s k => callEv_tr (C := cfg) (same17_ret e1 e1 g1 g1 (by simp only at k1; omega) (fun r hm => by have := k3 r hm; omega)) rfl rfl rfl s k
    have h7 := fun s k => callEv_tr (C := cfg) (same17_ret e2 e2 g2 g2 (by simp only at k2; omega) (fun r hm => by have := k4 r hm; omega)) rfl rfl rfl s k
    simp only [mapV, gl, il, iv, bv] at h2 h3 h4 h5 h6 h7
    simp at h6 h7
    simp [mapV, gl, hs, ha, h2, h3, h4, h5, h6, h7, over]
  · simp [mapV, gl, hs, ha, h1]

theorem placeTurns_ev (xs : List V) (h : ArgsFit PP 8 [24, 3, 3] xs) : ∃ hp c, runL cfg 3 xs [] 0 = some (bv true, hp, c) := by
  obtain ⟨x1, r, rfl, h1, h⟩ := argsFit_cons h
  obtain ⟨x2, r, rfl, h2, h⟩ := argsFit_cons h
  obtain ⟨x3, r, rfl, h3, h⟩ := argsFit_cons h
  cases argsFit_nil h
  obtain ⟨e, l, rfl, _, _⟩ := a_map h1
  obtain ⟨x, rfl, _⟩ := a_int h2
  obtain ⟨n, rfl, _⟩ := a_int h3
  exact pturns e l x n
end Go.Proofs.Ythkehbdljckbdaa.Pv
