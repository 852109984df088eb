/- PlaceKeeps, reckoned. -/
import Derived.Test.YthkehbdljckbdaaLTurns
import Derived.Test.YthkehbdljckbdaaPMap2
set_option linter.unusedVariables false
set_option linter.unusedSimpArgs false
set_option maxRecDepth 100000
namespace Go.Proofs.Ythkehbdljckbdaa.Pv
open Go Go.Pev

def bl8 (l : List Nat) : T := .l (l.map fun n : Nat => [.i .u8 (n : Int)])

set_option maxHeartbeats 4000000 in
theorem keeps_step (l : List Nat) (h8 : ∀ n ∈ l, n ≤ 255) (i : Nat) (hi : i < l.length) (h60 : i < 60) (e : Int) (g : List (List Int)) (hr : right e g = true) (hg : g.length = 2) (he : e ≤ i) (ck : Nat) :
    ∃ e' g' ck', right e' g' = true ∧ g'.length = 2 ∧ e' ≤ ((i + 1 : Nat) : Int) ∧ evL cfg f4l0 ⟨[(0, .t (bl8 l)), (3, .pt ⟨3, 1, 4⟩ 2 0 0), (4, iv i)], [(⟨3, 1, 4⟩, .box 24 [iv e, .t (gl g)])], ck⟩ =
      some (.normal, ⟨[(0, .t (bl8 l)), (3, .pt ⟨3, 1, 4⟩ 2 0 0), (4, iv ((i + 1 : Nat) : Int))], [(⟨3, 1, 4⟩, .box 24 [iv e', .t (gl g')])], ck'⟩) := by
  have hw : IntKind.i64.wrap ((i : Int) + 1) = (i : Int) + 1 := wrap_id (by omega) (by omega)
  have h60' : (i : Int) < 60 := by omega
  have hb8 := h8 _ (List.getElem_mem hi)
  have hli : (l[i]?) = some l[i] := List.getElem?_eq_getElem hi
  generalize hbe : l[i] = b at *
  obtain ⟨n, hn⟩ : ∃ n : Nat, n = b % 8 := ⟨_, rfl⟩
  obtain ⟨x, hx⟩ : ∃ x : Nat, x = b / 16 % 2 := ⟨_, rfl⟩
  obtain ⟨m, hm⟩ : ∃ m : Nat, m = b % 16 := ⟨_, rfl⟩
  obtain ⟨z, hz⟩ : ∃ z : Nat, z = b / 16 := ⟨_, rfl⟩
  have t1 : (b : Int).tmod 8 = (n : Int) := by rw [hn, Int.tmod_eq_emod_of_nonneg (by omega)]; rfl
  have t2 : IntKind.u8.wrap ((b : Int) / 16) = (z : Int) := by
    rw [show (b : Int) / 16 = (z : Int) by omega]
    exact IntWalk.u8_in _ (by omega)
  have t3 : (z : Int).tmod 2 = (x : Int) := by rw [hx, ← hz, Int.tmod_eq_emod_of_nonneg (by omega)]; rfl
  have t4 : (b : Int).tmod 16 = (m : Int) := by rw [hm, Int.tmod_eq_emod_of_nonneg (by omega)]; rfl
  have t5 : IntKind.i64.wrap (n : Int) = n := wrap_id (by omega) (by omega)
  have t6 : IntKind.i64.wrap (x : Int) = x := wrap_id (by omega) (by omega)
  have hrow : ∀ r ∈ g, r.length ≤ 1000 := fun r hm => by have := rowUp_len (right_row' hr hm).1; omega
  have hxg : x < g.length := by omega
  have hwe : IntKind.i64.wrap (e + 1) = e + 1 := wrap_id (by have := (right_e hr).1; omega) (by omega)
  by_cases hm8 : m < 8
  · have hd8 : decide ((m : Int) < 8) = true := decide_eq_true (by omega)
    have h2 := fun s k => callEv_tr (C := cfg) (add_ret e g x n (by omega) (fun r hm => by have := hrow r hm; omega)) rfl rfl rfl s k
    have d := rturn_done (e := e) (h := g) (x := x) (n := n) (add := true)
    have d' := rturn_not (e := e) (h := g) (x := x) (n := n) (add := true)
    have k1 := rturn_len (e := e) (h := g) x n true
    have k3 := rturn_rows (e := e) (h := g) (b := 1000) (by omega) hrow x n true
    generalize rturn e g x n true = p at *
    obtain ⟨e1, g1, t⟩ := p
    simp only at d d' k1 k3
    have h4 := fun s k => callEv_tr (C := cfg) (pright_ret e1 g1 (by omega) (fun r hm => by have := k3 r hm; omega)) rfl rfl rfl s k
    have h5 := fun hp => callQ_tr (C := cfg) (holds_ret e1 g1 x n (fun r hm => by have := k3 r hm; omega)) rfl hp
    by_cases ht : t = 0
    · subst ht
      obtain ⟨rfl, d2, d3, _⟩ := d rfl
      refine ⟨e + 1, g1, ck + 9, d2, by omega, by omega, ?_⟩
      rw [d2] at h4
      rw [d3] at h5
      simp only [mapV, gl, il, iv, bv] at h2 h4 h5
      simp [f4l0e, bl8, mapV, gl, hi, hbe, hli, h60, h60', hw, t1, t2, t3, t4, t5, t6, hd8, h2, h4, h5, over, k1, hg, hwe]
    · obtain ⟨rfl, rfl⟩ := d' ht
      have ht0 : (t == 0) = false := by simpa using ht
      have ht1 : (t != 0) = true := by simpa using ht
      refine ⟨e1, g1, ck + 9, hr, by omega, by omega, ?_⟩
      rw [hr] at h4
      simp only [mapV, gl, il, iv, bv] at h2 h4
      simp [f4l0e, bl8, mapV, gl, hi, hbe, hli, h60, h60', hw, t1, t2, t3, t4, t5, t6, hd8, h2, h4, over, hg, ht0, ht1]
  · have h2 := fun s k => callEv_tr (C := cfg) (retire_ret e g x n (by omega) (fun r hm => by have := hrow r hm; omega)) rfl rfl rfl s k
    have d := rturn_done (e := e) (h := g) (x := x) (n := n) (add := false)
    have d' := rturn_not (e := e) (h := g) (x := x) (n := n) (add := false)
    have k1 := rturn_len (e := e) (h := g) x n false
    have k3 := rturn_rows (e := e) (h := g) (b := 1000) (by omega) hrow x n false
    generalize rturn e g x n false = p at *
    obtain ⟨e1, g1, t⟩ := p
    simp only at d d' k1 k3
    have h4 := fun s k => callEv_tr (C := cfg) (pright_ret e1 g1 (by omega) (fun r hm => by have := k3 r hm; omega)) rfl rfl rfl s k
    have h5 := fun hp => callQ_tr (C := cfg) (holds_ret e1 g1 x n (fun r hm => by have := k3 r hm; omega)) rfl hp
    have hd8 : decide ((m : Int) < 8) = false := decide_eq_false (by omega)
    by_cases ht : t = 0
    · subst ht
      obtain ⟨rfl, d2, d3, _⟩ := d rfl
      refine ⟨e + 1, g1, ck + 9, d2, by omega, by omega, ?_⟩
      rw [d2] at h4
      rw [d3] at h5
      simp only [mapV, gl, il, iv, bv] at h2 h4 h5
      simp [f4l0e, bl8, mapV, gl, hi, hbe, hli, h60, h60', hw, t1, t2, t3, t4, t5, t6, hd8, h2, h4, h5, over, k1, hg, hwe]
    · obtain ⟨rfl, rfl⟩ := d' ht
      have ht0 : (t == 0) = false := by simpa using ht
      have ht1 : (t != 0) = true := by simpa using ht
      refine ⟨e1, g1, ck + 9, hr, by omega, by omega, ?_⟩
      rw [hr] at h4
      simp only [mapV, gl, il, iv, bv] at h2 h4
      simp [f4l0e, bl8, mapV, gl, hi, hbe, hli, h60, h60', hw, t1, t2, t3, t4, t5, t6, hd8, h2, h4, over, hg, ht0, ht1]

theorem keeps_loop (l : List Nat) (h8 : ∀ n ∈ l, n ≤ 255) : ∀ (k i : Nat) (e : Int) (g : List (List Int)) (ck : Nat), i + k = 60 → i ≤ l.length → right e g = true → g.length = 2 → e ≤ i → ∃ i' e' g' ck', evL cfg (.loop f4l0) ⟨[(0, .t (bl8 l)), (3, .pt ⟨3, 1, 4⟩ 2 0 0), (4, iv i)], [(⟨3, 1, 4⟩, .box 24 [iv e, .t (gl g)])], ck⟩ =
      some (.exit 0, ⟨[(0, .t (bl8 l)), (3, .pt ⟨3, 1, 4⟩ 2 0 0), (4, iv i'), (20, bv false)], [(⟨3, 1, 4⟩, .box 24 [iv e', .t (gl g')])], ck'⟩) := by
  intro k
  induction k with
  | zero =>
    intro i e g ck hk hi _ _ _
    obtain rfl : i = 60 := by omega
    refine ⟨60, e, g, ck + 1, ?_⟩
    rw [evL_loop]
    by_cases h : 60 < l.length
    · have h' : (60 : Int) < l.length := by omega
      simp [f4l0e, bl8, h']
    · have h' : ¬ (60 : Int) < l.length := by omega
      simp [f4l0e, bl8, h']
  | succ k ih =>
    intro i e g ck hk hi hr hg he
    by_cases hil : i < l.length
    · obtain ⟨e1, g1, c1, q1, q2, q3, q4⟩ := keeps_step l h8 i hil (by omega) e g hr hg he ck
      obtain ⟨i', e', g', ck', h3⟩ := ih (i + 1) e1 g1 c1 (by omega) (by omega) q1 q2 q3
      exact ⟨i', e', g', ck', by rw [evL_loop_n q4, h3]⟩
    · refine ⟨i, e, g, ck + 1, ?_⟩
      rw [evL_loop]
      simp [f4l0e, bl8, hil]

theorem pkeeps (l : List Nat) (h8 : ∀ n ∈ l, n ≤ 255) : ∃ hp c, runL cfg 4 [.t (bl8 l)] [] 0 = some (bv true, hp, c) := by
  have ha := fun s k => callEv_tr (C := cfg) awake17_ret rfl rfl rfl s k
  simp only [bv] at ha
  rw [runL_pf (fn := f4) rfl rfl]
  obtain ⟨i', e', g', ck', hl⟩ := keeps_loop l h8 60 0 0 [[1], [2, 3]] 3 (by omega) (by omega) (by decide) rfl (by omega)
  simp only [gl, il, iv, bv, Int.natCast_zero, List.map_cons, List.map_nil] at hl
  simp [hl, ha, rowsOf, keysOfs, treesC, treesOf, treeOf, freezeAll, buildV, over]

theorem u_u8 : PP.underlying 5 = some (.int .u8) := by kernel_rfl
theorem a_u8n {k : Nat} {x : V} (h : ArgFit PP (k + 2) 35 x) : ∃ l : List Nat, x = .t (bl8 l) ∧ ∀ n ∈ l, n ≤ 255 := by
  have hu : PP.underlying 35 = some (.slice 5) := by kernel_rfl
  obtain ⟨l, rfl, _, hw⟩ := argFit_slice (mk := fun n : Nat => [.i .u8 (n : Int)]) (Q := fun n => n ≤ 255) hu (fun c h => by
    obtain ⟨m, rfl, hw⟩ := fits_int u_u8 h
    simp only [Lit.wf, Bool.and_eq_true, decide_eq_true_eq] at hw
    have h1 : IntKind.u8.min = 0 := by decide
    have h2 : IntKind.u8.max = 255 := by decide
    exact ⟨m.toNat, by rw [Int.toNat_of_nonneg (by omega)], by omega⟩) h
  exact ⟨l, rfl, hw⟩
theorem placeKeeps_ev (xs : List V) (h : ArgsFit PP 8 [35] xs) : ∃ hp c, runL cfg 4 xs [] 0 = some (bv true, hp, c) := by
  obtain ⟨x1, r, rfl, h1, h⟩ := argsFit_cons h
  cases argsFit_nil h
  obtain ⟨l, rfl, hl⟩ := a_u8n h1
  exact pkeeps l hl
end Go.Proofs.Ythkehbdljckbdaa.Pv
