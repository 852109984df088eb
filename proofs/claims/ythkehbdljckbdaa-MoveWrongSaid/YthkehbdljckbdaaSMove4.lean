/- What move.Text, Commit, Abort and the laws' small functions of the layer 22 tell. -/
import Derived.Test.YthkehbdljckbdaaSPiece3
import Derived.Test.YthkehbdljckbdaaSMove3
import Derived.Test.YthkehbdljckbdaaSLaw17
set_option linter.unusedVariables false
set_option linter.unusedSimpArgs false
namespace Go.Proofs.Ythkehbdljckbdaa.Pv
open Go Go.Pev

theorem ref22_ret (m : Mv) : RetT cfg 32 [mvV m] (mvV m) := by
  unfold RetT
  rw [runL_pf (fn := f32) rfl rfl]
  simp [mvV, over]
  refine ⟨_, _, ⟨rfl, rfl⟩, ?_⟩
  simp [resOf, resOf1, treesOf, treeOf]
theorem plain22_ret : RetT cfg 39 [] (mapV 0 [[1]]) := by
  unfold RetT
  rw [runL_pf (fn := f39) rfl rfl]
  simp [mapV, gl, over, rowsOf, keysOfs, treesC, treesOf, treeOf, freezeAll, buildV]
  refine ⟨_, _, ⟨rfl, rfl⟩, ?_⟩
  simp [resOf, resOf1, treesOf, treeOf]

theorem s22_has (m : Mv) (hl : m.has.length ≤ 1000000) : ∀ (k i ck : Nat), i + k = m.has.length → ∃ ck', evL cfg (.loop f31l0) ⟨[(2, .pt ⟨2, 0, 0⟩ 7 0 0), (3, .pt ⟨3, 0, 1⟩ 7 0 0), (5, iv i)], [(⟨3, 0, 1⟩, .box 51 [iv m.x, iv m.f, iv m.t, iv m.p, iv m.s, .t (bl m.has), .t (sl m.got)]), (⟨2, 0, 0⟩, .box 51 [iv m.x, iv m.f, iv m.t, iv m.p, iv m.s, .t (bl m.has), .t (sl m.got)])], ck⟩ =
    some (.exit 0, ⟨[(2, .pt ⟨2, 0, 0⟩ 7 0 0), (3, .pt ⟨3, 0, 1⟩ 7 0 0), (5, iv m.has.length), (62, bv false)], [(⟨3, 0, 1⟩, .box 51 [iv m.x, iv m.f, iv m.t, iv m.p, iv m.s, .t (bl m.has), .t (sl m.got)]), (⟨2, 0, 0⟩, .box 51 [iv m.x, iv m.f, iv m.t, iv m.p, iv m.s, .t (bl m.has), .t (sl m.got)])], ck'⟩) := by
  intro k
  induction k with
  | zero =>
    intro i ck h
    obtain rfl : i = m.has.length := by omega
    refine ⟨ck + 1, ?_⟩
    rw [evL_loop]
    simp [f31l0e, bl]
  | succ k ih =>
    intro i ck h
    have hi : i < m.has.length := by omega
    have hw : IntKind.i64.wrap ((i : Int) + 1) = (i : Int) + 1 := wrap_id (by omega) (by omega)
    obtain ⟨ck', hc⟩ := ih (i + 1) (ck + 3) (by omega)
    refine ⟨ck', ?_⟩
    rw [← hc, evL_loop_n]
    simp [f31l0e, bl, hi, hw]
theorem s22_got (m : Mv) (hl : m.got.length ≤ 1000000) : ∀ (k i ck : Nat), i + k = m.got.length → ∃ ck', evL cfg (.loop f31l1) ⟨[(2, .pt ⟨2, 0, 0⟩ 7 0 0), (3, .pt ⟨3, 0, 1⟩ 7 0 0), (6, iv i)], [(⟨3, 0, 1⟩, .box 51 [iv m.x, iv m.f, iv m.t, iv m.p, iv m.s, .t (bl m.has), .t (sl m.got)]), (⟨2, 0, 0⟩, .box 51 [iv m.x, iv m.f, iv m.t, iv m.p, iv m.s, .t (bl m.has), .t (sl m.got)])], ck⟩ =
    some (.exit 2, ⟨[(2, .pt ⟨2, 0, 0⟩ 7 0 0), (3, .pt ⟨3, 0, 1⟩ 7 0 0), (6, iv m.got.length), (80, bv false)], [(⟨3, 0, 1⟩, .box 51 [iv m.x, iv m.f, iv m.t, iv m.p, iv m.s, .t (bl m.has), .t (sl m.got)]), (⟨2, 0, 0⟩, .box 51 [iv m.x, iv m.f, iv m.t, iv m.p, iv m.s, .t (bl m.has), .t (sl m.got)])], ck'⟩) := by
  intro k
  induction k with
  | zero =>
    intro i ck h
    obtain rfl : i = m.got.length := by omega
    refine ⟨ck + 1, ?_⟩
    rw [evL_loop]
    simp [f31l1e, sl]
  | succ k ih =>
    intro i ck h
    have hi : i < m.got.length := by omega
    have hw : IntKind.i64.wrap ((i : Int) + 1) = (i : Int) + 1 := wrap_id (by omega) (by omega)
    obtain ⟨ck', hc⟩ := ih (i + 1) (ck + 3) (by omega)
    refine ⟨ck', ?_⟩
    rw [← hc, evL_loop_n]
    simp [f31l1e, sl, hi, hw]
/-- Of equal moves it tells true. -/
theorem same22_ret (m : Mv) (h1 : m.has.length ≤ 1000000) (h2 : m.got.length ≤ 1000000) : RetT cfg 31 [mvV m, mvV m] (bv true) := by
  obtain ⟨c1, l1⟩ := s22_has m h1 m.has.length 0 3 (by omega)
  obtain ⟨c2, l2⟩ := s22_got m h2 m.got.length 0 (c1 + 1) (by omega)
  refine RetT.of ?_
  rw [runL_pf (fn := f31) rfl rfl]
  simp only [iv, bv, bl, sl, Int.natCast_zero] at l1 l2
  simp [mvV, bl, sl, l1, l2]

def textP (m : Mv) : Bool := decide (m.p = 2 ∨ m.p = 3)
theorem text_ret (m : Mv) (h1 : m.got.length ≤ 1000000) (h2 : m.got.flatten.length ≤ 1000000) : RetT cfg 37 [mvV m] (.tu [.t (.s (if textP m then m.got.flatten else [])), bv (textP m)]) := by
  have hc := fun st k => callEv_tr (C := cfg) (cjoin_ret m.got h1 h2) rfl rfl rfl st k
  simp only [sl] at hc
  refine RetT.of_tu (x := [.s (if textP m then m.got.flatten else []), .b (textP m)]) ?_
  rw [runL_pf (fn := f37) rfl rfl]
  by_cases g1 : m.p = 2
  · simp [mvV, textP, g1, sl, hc]
  · have d1 : (m.p != 2) = true := by simpa using g1
    by_cases g2 : m.p = 3
    · simp [mvV, textP, g2, sl, hc]
    · have d2 : (m.p != 3) = true := by simpa using g2
      simp [mvV, textP, g1, g2, d1, d2, sl]

def commitP (m : Mv) (e : Int) (h : List (List Int)) : Mv × Int × List (List Int) × Int :=
  if m.p ≠ 2 then (m, e, h, 1) else if (rturn e h m.x m.t true).2.2 ≠ 0 then (m, e, h, (rturn e h m.x m.t true).2.2) else ({ m with p := 3 }, (rturn e h m.x m.t true).1, (rturn e h m.x m.t true).2.1, 0)
def comV (r : Mv × Int × List (List Int) × Int) : V := .tu [mvV r.1, mapV r.2.1 r.2.2.1, iv r.2.2.2]
theorem commit_ret (m : Mv) (e : Int) (h : List (List Int)) (hh : h.length ≤ 100000) (hr : ∀ r ∈ h, r.length ≤ 100000) : RetT cfg 40 [mvV m, mapV e h] (comV (commitP m e h)) := by
  have ha := fun st k => callEv_tr (C := cfg) (add_ret e h m.x m.t hh hr) rfl rfl rfl st k
  unfold RetT
  rw [runL_pf (fn := f40) rfl rfl]
  unfold commitP
  by_cases h1 : m.p = 2
  · rw [if_neg (by simp [h1])]
    generalize rturn e h m.x m.t true = r at *
    obtain ⟨e1, g1, t1⟩ := r
    simp only [mapV, gl, iv] at ha
    by_cases h2 : t1 = 0
    · subst h2
      rw [if_neg (by simp)]
      simp [mvV, mapV, gl, h1, ha, over, apart]
      refine ⟨_, _, ⟨rfl, rfl⟩, ?_⟩
      simp [comV, mvV, mapV, gl, resOf, resOfs, resOf1, treesOf, treeOf]
    · rw [if_pos h2]
      have d2 : (t1 != 0) = true := by simpa using h2
      simp [mvV, mapV, gl, h1, ha, over, apart, d2]
      refine ⟨_, _, ⟨rfl, rfl⟩, ?_⟩
      simp [comV, mvV, mapV, gl, resOf, resOfs, resOf1, treesOf, treeOf, h1]
  · rw [if_pos h1]
    have d1 : (m.p != 2) = true := by simpa using h1
    simp [mvV, mapV, gl, d1, over, apart]
    refine ⟨_, _, ⟨rfl, rfl⟩, ?_⟩
    simp [comV, mvV, mapV, gl, resOf, resOfs, resOf1, treesOf, treeOf]

def abortP (m : Mv) : Mv × Int := if m.p = 3 then (m, 7) else ({ m with p := 4 }, 0)
theorem abort_ret (m : Mv) : RetT cfg 41 [mvV m] (pieV (abortP m)) := by
  unfold RetT
  rw [runL_pf (fn := f41) rfl rfl]
  unfold abortP
  by_cases h1 : m.p = 3
  · rw [if_pos h1]
    simp [mvV, h1, over]
    refine ⟨_, _, ⟨rfl, rfl⟩, ?_⟩
    simp [pieV, mvV, resOf, resOfs, resOf1, treesOf, treeOf, h1]
  · rw [if_neg h1]
    have d1 : (m.p == 3) = false := by simpa using h1
    simp [mvV, d1, over]
    refine ⟨_, _, ⟨rfl, rfl⟩, ?_⟩
    simp [pieV, mvV, resOf, resOfs, resOf1, treesOf, treeOf]

set_option maxHeartbeats 4000000 in
theorem awake22_ret : RetT cfg 28 [] (bv true) := by
  have e1 : beginP 0 [[1]] 0 1 2 [97, 98] 1 = (⟨0, 1, 2, 1, crcI [97, 98], [false, false], [[], []]⟩, [[97], [98]], 0) := by
    unfold beginP; rw [if_neg (by decide), if_neg (by decide)]; rfl
  have e2 : pieceP ⟨0, 1, 2, 1, crcI [97, 98], [false, false], [[], []]⟩ 1 [98] = (⟨0, 1, 2, 1, crcI [97, 98], [false, true], [[], [98]]⟩, 0) := by
    unfold pieceP; rw [if_neg (by simp), if_neg (by simp), if_pos (by decide)]; rfl
  have e3 : pieceP ⟨0, 1, 2, 1, crcI [97, 98], [false, true], [[], [98]]⟩ 0 [97] = (⟨0, 1, 2, 2, crcI [97, 98], [true, true], [[97], [98]]⟩, 0) := by
    unfold pieceP; rw [if_neg (by simp), if_neg (by simp), if_neg (by decide), if_neg (fun h => h rfl)]; rfl
  have e5 : commitP ⟨0, 1, 2, 2, crcI [97, 98], [true, true], [[97], [98]]⟩ 0 [[1]] = (⟨0, 1, 2, 3, crcI [97, 98], [true, true], [[97], [98]]⟩, 1, [[1, 2]], 0) := by
    unfold commitP; rw [if_neg (by simp), show rturn 0 [[1]] 0 2 true = (1, [[1, 2]], 0) by decide]; rfl
  have e6 : holds [[1, 2]] 0 2 = true := by decide
  have h0 := fun s k => callEv_tr (C := cfg) plain22_ret rfl rfl rfl s k
  have h0q := fun hp => callQ_tr (C := cfg) plain22_ret rfl hp
  have h1 := fun s k => callEv_tr (C := cfg) (begin_ret 0 [[1]] 0 1 2 [97, 98] 1 (by decide) (by decide) (by decide)) rfl rfl rfl s k
  have h2 := fun s k => callEv_tr (C := cfg) (piece_ret ⟨0, 1, 2, 1, crcI [97, 98], [false, false], [[], []]⟩ 1 [98] (by simp) (by simp) (by simp) (by simp)) rfl rfl rfl s k
  have h3 := fun s k => callEv_tr (C := cfg) (piece_ret ⟨0, 1, 2, 1, crcI [97, 98], [false, true], [[], [98]]⟩ 0 [97] (by simp) (by simp) (by simp) (by simp)) rfl rfl rfl s k
  have h4 := fun s k => callEv_tr (C := cfg) (text_ret ⟨0, 1, 2, 2, crcI [97, 98], [true, true], [[97], [98]]⟩ (by simp) (by simp)) rfl rfl rfl s k
  have h5 := fun hp => callQ_tr (C := cfg) (commit_ret ⟨0, 1, 2, 2, crcI [97, 98], [true, true], [[97], [98]]⟩ 0 [[1]] (by decide) (by decide)) rfl hp
  have h6 := fun s k => callEv_tr (C := cfg) (holds_ret 1 [[1, 2]] 0 2 (by decide)) rfl rfl rfl s k
  rw [e1] at h1
  rw [e2] at h2
  rw [e3] at h3
  rw [e5] at h5
  rw [e6] at h6
  generalize crcI [97, 98] = cr at *
  simp only [begV, pieV, comV, mvV, mapV, gl, il, bl, sl, iv, bv, List.map_cons, List.map_nil] at h0 h0q h1 h2 h3 h4 h5 h6
  simp [textP] at h4
  refine RetT.of ?_
  rw [runL_pf (fn := f28) rfl rfl]
  simp [h0, h0q, h1, h2, h3, h4, h5, h6, over]
end Go.Proofs.Ythkehbdljckbdaa.Pv
