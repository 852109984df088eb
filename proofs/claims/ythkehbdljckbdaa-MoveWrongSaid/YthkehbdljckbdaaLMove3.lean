/- MoveMany, MoveSteps, reckoned. -/
import Derived.Test.YthkehbdljckbdaaLMove1
import Derived.Test.YthkehbdljckbdaaLTurns
import Derived.Test.YthkehbdljckbdaaPMap2
import Derived.Test.YthkehbdljckbdaaPMove
set_option linter.unusedVariables false
set_option linter.unusedSimpArgs false
set_option maxRecDepth 100000
namespace Go.Proofs.Ythkehbdljckbdaa.Pv
open Go Go.Pev

def mcs (m : Mv) : List V := [iv m.x, iv m.f, iv m.t, iv m.p, iv m.s, .t (bl m.has), .t (sl m.got)]
theorem u_u8' : PP.underlying 5 = some (.int .u8) := by kernel_rfl
theorem a_u8 {k : Nat} {x : V} (h : ArgFit PP (k + 1) 5 x) : ∃ m : Nat, x = .t (.i .u8 m) ∧ m ≤ 255 := by
  obtain ⟨m, rfl, hw⟩ := argFit_int u_u8' h
  simp only [Lit.wf, Bool.and_eq_true, decide_eq_true_eq] at hw
  have h1 : IntKind.u8.min = 0 := by decide
  have h2 : IntKind.u8.max = 255 := by decide
  exact ⟨m.toNat, by rw [Int.toNat_of_nonneg (by omega)], by omega⟩
/-- The size that such a law takes. -/
theorem size_of (b : Nat) (hb : b ≤ 255) : ∃ m k : Nat, ((b : Int)).tmod 64 = (m : Int) ∧ IntKind.i64.wrap (m : Int) = (m : Int) ∧ IntKind.i64.wrap (1 + (m : Int)) = (k : Int) ∧ 1 ≤ k ∧ k ≤ 64 := by
  refine ⟨b % 64, 1 + b % 64, ?_, wrap_id (by omega) (by omega), ?_, by omega, by omega⟩
  · rw [Int.tmod_eq_emod_of_nonneg (by omega)]; rfl
  · rw [wrap_id (by omega) (by omega)]; omega
theorem cut_short {k : Nat} (hk : 1 ≤ k ∧ k ≤ 64) (s : List UInt8) : ∀ y ∈ cut k s, y.length ≤ 64 := by
  intro y hy
  obtain ⟨i, hi, rfl⟩ := List.getElem_of_mem hy
  have := (cut_get hk.1 s i hi).2.1
  omega

theorem many_loop (s : List UInt8) (hl : s.length ≤ 300) (k : Nat) (hk : 1 ≤ k ∧ k ≤ 64) (cs : List V) : ∀ (fu j ck : Nat), j + fu = (cut k s).length → ∃ ck', evL cfg (.loop f13l0) ⟨[(0, .t (.s s)), (5, iv k), (6, .pt ⟨6, 3, 8⟩ 7 0 0), (7, .t (sl (cut k s))), (8, iv 0), (9, .t (.s ((cut k s).take j).flatten)), (32, .t (sl (cut k s))), (33, iv (cut k s).length), (34, iv j)], [(⟨6, 3, 8⟩, .box 48 cs)], ck⟩ =
    some (.exit 0, ⟨[(0, .t (.s s)), (5, iv k), (6, .pt ⟨6, 3, 8⟩ 7 0 0), (7, .t (sl (cut k s))), (8, iv 0), (9, .t (.s s)), (32, .t (sl (cut k s))), (33, iv (cut k s).length), (34, iv (cut k s).length), (35, bv false)], [(⟨6, 3, 8⟩, .box 48 cs)], ck'⟩) := by
  have hn := cut_le hk.1 s
  intro fu
  induction fu with
  | zero =>
    intro j ck h
    obtain rfl : j = (cut k s).length := by omega
    refine ⟨ck + 1, ?_⟩
    rw [evL_loop, List.take_length, cut_flatten hk.1]
    simp [f13l0e, sl]
  | succ fu ih =>
    intro j ck h
    have hj : j < (cut k s).length := by omega
    have hw : IntKind.i64.wrap ((j : Int) + 1) = (j : Int) + 1 := wrap_id (by omega) (by omega)
    obtain ⟨g1, g2, g3⟩ := cut_get hk.1 s j hj
    obtain ⟨ck', hc⟩ := ih (j + 1) (ck + 5) (by omega)
    refine ⟨ck', ?_⟩
    have hb := flat_le (cut k s) (j + 1)
    rw [cut_flatten hk.1] at hb
    rw [← hc, evL_loop_n]
    rw [flat_drop hj] at hb ⊢
    rw [List.length_append] at hb
    have hli : (cut k s)[j]? = some (cut k s)[j] := List.getElem?_eq_getElem hj
    obtain ⟨nm, hnm⟩ : ∃ nm : Nat, nm = (cut k s).length - 1 := ⟨_, rfl⟩
    have hw2 : IntKind.i64.wrap (((cut k s).length : Int) - 1) = (nm : Int) := by rw [wrap_id (by omega) (by omega)]; omega
    generalize ((cut k s).take j).flatten = p at *
    have hbig : ¬ (9223372036854775807 : Int) < (p.length : Int) + ((cut k s)[j].length : Int) := by omega
    have d1' : decide (k < (cut k s)[j].length) = false := decide_eq_false (by omega)
    have d2 : ((cut k s)[j] == []) = false := by
      rw [Bool.eq_false_iff]; intro hh; rw [eq_of_beq hh] at g1; simp at g1
    by_cases hlast : j + 1 < (cut k s).length
    · have d3 : decide (j < nm) = true := decide_eq_true (by omega)
      have d4 : (((cut k s)[j].length : Int) != (k : Int)) = false := by rw [g3 hlast]; simp
      have d4' : ((cut k s)[j].length != k) = false := by rw [g3 hlast]; simp
      simp [f13l0e, sl, hj, hw, hw2, d1', d2, d3, d4, d4', i64max, hbig]
    · have d3 : decide (j < nm) = false := decide_eq_false (by omega)
      simp [f13l0e, sl, hj, hw, hw2, d1', d2, d3, i64max, hbig]

set_option maxHeartbeats 4000000 in
theorem mmany (s : List UInt8) (b : Nat) (hb : b ≤ 255) : ∃ hp c, runL cfg 13 [.t (.s s), .t (.i .u8 b)] [] 0 = some (bv true, hp, c) := by
  have ha := fun s k => callEv_tr (C := cfg) awake22_ret rfl rfl rfl s k
  have h0 := fun s k => callEv_tr (C := cfg) plain22_ret rfl rfl rfl s k
  simp only [mapV, gl, il, iv, bv, List.map_cons, List.map_nil] at ha h0
  obtain ⟨m, k, t1, t2, t3, hk⟩ := size_of b hb
  rw [runL_pf (fn := f13) rfl rfl]
  by_cases h1 : s = []
  · subst h1
    simp [t1, t2, t3, ha]
  have d1 : (s == []) = false := by simpa using h1
  by_cases h2 : s.length ≤ 300
  case neg =>
    have d2 : decide ((300 : Int) < (s.length : Int)) = true := decide_eq_true (by omega)
    simp [t1, t2, t3, ha, d1, d2]
  have d2 : decide ((300 : Int) < (s.length : Int)) = false := decide_eq_false (by omega)
  have hbg := fun st k' => callEv_tr (C := cfg) (begin_ret 0 [[1]] 0 1 2 s k (by decide) (by decide) (by omega)) rfl rfl rfl st k'
  rw [begin_mid (by decide) (by decide) (by decide) (by decide) h1 hk] at hbg
  have lh : (mid 0 1 2 (crcI s) (cut k s) (List.replicate (cut k s).length false)).has.length = (cut k s).length := by simp [mid]
  have lg : (mid 0 1 2 (crcI s) (cut k s) (List.replicate (cut k s).length false)).got.length = (cut k s).length := by simp only [mid]; exact gots_len (by simp)
  generalize mid 0 1 2 (crcI s) (cut k s) (List.replicate (cut k s).length false) = mm at *
  have hn := cut_len hk.1 s
  have hn2 := cut_le hk.1 s
  obtain ⟨c, hl⟩ := many_loop s h2 k hk (mcs mm) (cut k s).length 0 6 (by omega)
  rw [List.take_zero] at hl
  obtain ⟨a, ha1⟩ : ∃ a : Nat, a = s.length + k := ⟨_, rfl⟩
  obtain ⟨a2, ha2⟩ : ∃ a2 : Nat, a2 = a - 1 := ⟨_, rfl⟩
  have w1 : IntKind.i64.wrap ((s.length : Int) + (k : Int)) = (a : Int) := by rw [wrap_id (by omega) (by omega)]; omega
  have w2 : IntKind.i64.wrap ((a : Int) - 1) = (a2 : Int) := by rw [wrap_id (by omega) (by omega)]; omega
  have w3 : IntKind.i64.wrap ((a2 : Int) / (k : Int)) = ((cut k s).length : Int) := by
    have e : (a2 : Int) / (k : Int) = ((a2 / k : Nat) : Int) := rfl
    rw [e, ha2, ha1, ← hn]
    exact wrap_id (by omega) (by omega)
  have hk0 : ¬ k = 0 := by omega
  simp only [begV, mvV, mapV, mcs, gl, il, bl, sl, iv, bv, List.flatten_nil, List.map_cons, List.map_nil, Int.natCast_zero] at hbg hl
  generalize cut k s = l at *
  simp [t1, t2, t3, ha, h0, d1, d2, hbg, hl, over, lh, lg, w1, w2, w3, hk0]

theorem moveMany_ev (xs : List V) (h : ArgsFit PP 8 [9, 5] xs) : ∃ hp c, runL cfg 13 xs [] 0 = some (bv true, hp, c) := by
  obtain ⟨x1, r, rfl, h1, h⟩ := argsFit_cons h
  obtain ⟨x2, r, rfl, h2, h⟩ := argsFit_cons h
  cases argsFit_nil h
  obtain ⟨s, rfl, _⟩ := a_str h1
  obtain ⟨b, rfl, hb⟩ := a_u8 h2
  exact mmany s b hb

/-! ### the steps -/
theorem begin_cases (e : Int) (h : List (List Int)) (x f t : Int) (s : List UInt8) (k : Nat) (hk : 1 ≤ k ∧ k ≤ 64) : (∃ er : Int, er ≠ 0 ∧ beginP e h x f t s k = (mv0, [], er)) ∨
    (right e h = true ∧ holds h x f = true ∧ holds h x t = false ∧ (1 ≤ t ∧ t ≤ 4) ∧ s ≠ [] ∧ beginP e h x f t s k = (mid x f t (crcI s) (cut k s) (List.replicate (cut k s).length false), cut k s, 0)) := by
  by_cases h1 : right e h = false ∨ holds h x f = false ∨ t < 1 ∨ 4 < t ∨ s = [] ∨ ¬ (1 ≤ (k : Int) ∧ (k : Int) ≤ 64)
  · left; refine ⟨1, by omega, ?_⟩; unfold beginP; rw [if_pos h1]
  · by_cases h2 : holds h x t = true
    · left; refine ⟨5, by omega, ?_⟩; unfold beginP; rw [if_neg h1, if_pos h2]
    · right
      have q1 : right e h = true := by
        cases q : right e h
        · exact absurd (.inl q) h1
        · rfl
      have q2 : holds h x f = true := by
        cases q : holds h x f
        · exact absurd (.inr (.inl q)) h1
        · rfl
      have q3 : 1 ≤ t ∧ t ≤ 4 := by
        refine ⟨Int.not_lt.1 fun q => h1 (.inr (.inr (.inl q))), Int.not_lt.1 fun q => h1 (.inr (.inr (.inr (.inl q))))⟩
      have q4 : s ≠ [] := fun q => h1 (.inr (.inr (.inr (.inr (.inl q)))))
      have h2 : holds h x t = false := by simpa using h2
      exact ⟨q1, q2, h2, q3, q4, begin_mid q1 q2 h2 q3 q4 hk⟩

theorem steps_loop (x f t : Int) (s : List UInt8) (hl : s.length ≤ 300) (v1 v2 v3 : V) (bx by_ : Ob) :
    ∀ (fu j ck : Nat), j + fu = (cut 64 s).length → ∃ ck', evL cfg (.loop f15l0) ⟨[(1, v1), (2, v2), (3, v3), (4, .t (.s s)), (5, .pt ⟨5, 0, 0⟩ 2 0 0), (11, .pt ⟨11, 2, 10⟩ 7 0 0), (15, .pt ⟨15, 4, 8⟩ 2 0 0), (85, .t (sl (cut 64 s))), (86, iv (cut 64 s).length), (87, iv j)], [(⟨15, 4, 8⟩, bx), (⟨11, 2, 10⟩, .box 48 (mcs (mid x f t (crcI s) (cut 64 s) (fill (List.replicate (cut 64 s).length false) j)))), (⟨5, 0, 0⟩, by_)], ck⟩ =
      some (.exit 0, ⟨[(1, v1), (2, v2), (3, v3), (4, .t (.s s)), (5, .pt ⟨5, 0, 0⟩ 2 0 0), (11, .pt ⟨11, 2, 10⟩ 7 0 0), (15, .pt ⟨15, 4, 8⟩ 2 0 0), (85, .t (sl (cut 64 s))), (86, iv (cut 64 s).length), (87, iv (cut 64 s).length), (88, bv false)], [(⟨15, 4, 8⟩, bx), (⟨11, 2, 10⟩, .box 48 (mcs (mid x f t (crcI s) (cut 64 s) (fill (List.replicate (cut 64 s).length false) (cut 64 s).length)))), (⟨5, 0, 0⟩, by_)], ck'⟩) := by
  have hn := cut_le (k := 64) (by omega) s
  have hsh := cut_short (k := 64) (by omega) s
  generalize cut 64 s = l at *
  intro fu
  induction fu with
  | zero =>
    intro j ck h
    obtain rfl : j = l.length := by omega
    refine ⟨ck + 1, ?_⟩
    rw [evL_loop]
    simp [f15l0e, sl]
  | succ fu ih =>
    intro j ck h
    have hj : j < l.length := by omega
    have hw : IntKind.i64.wrap ((j : Int) + 1) = (j : Int) + 1 := wrap_id (by omega) (by omega)
    obtain ⟨ck', hc⟩ := ih (j + 1) (ck + 4) (by omega)
    refine ⟨ck', ?_⟩
    have hz : (fill (List.replicate l.length false) j).length = l.length := by rw [fill_len (by simp; omega)]; simp
    have hp := fun st kk => callEv_tr (C := cfg) (piece_ret (mid x f t (crcI s) l (fill (List.replicate l.length false) j)) j l[j] (by simp only [mid]; omega) (by simp only [mid]; rw [gots_len hz]; omega) (fun y hy => by have := gots_short hsh y hy; omega) (by have := hsh _ (List.getElem_mem hj); omega)) rfl rfl rfl st kk
    rw [piece_new hz hj (by rw [fill_get (by simpa using hj)]; simp), fill_set (by simpa using hj)] at hp
    rw [← hc, evL_loop_n]
    have hli : l[j]? = some l[j] := List.getElem?_eq_getElem hj
    generalize mid x f t (crcI s) l (fill (List.replicate l.length false) j) = m1 at *
    generalize mid x f t (crcI s) l (fill (List.replicate l.length false) (j + 1)) = m2 at *
    simp only [pieV, mvV, mcs, bl, sl, iv, bv] at hp ⊢
    simp [f15l0e, sl, hj, hw, hp, over]
end Go.Proofs.Ythkehbdljckbdaa.Pv
