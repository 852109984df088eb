/- LoadCalm, reckoned. -/
import Derived.Test.YtchjpboiebdabaaPure1
import Derived.Test.YtchjpboiebdabaaArgs1
set_option linter.unusedVariables false
set_option linter.unusedSimpArgs false
namespace Go.Proofs.Ytchjpboiebdabaa.Pv
open Go Go.Pev

def U32 (n : Int) : Prop := 0 ≤ n ∧ n ≤ 4294967295
def ul (l : List Int) : T := .l (l.map fun n => [.i .u32 n])
def fewOf (k : Int) (l : List Int) : List Int := l.map fun n => if k < n then k else n

theorem calm_few (l : List Int) (p bx mn : V) (k : Int) (hp : HP) (hl : l.length ≤ 60) (hu : ∀ n ∈ l, U32 n) : ∀ (m i c o ck : Nat), i + m = l.length → ∃ c' o' ck', evL cfg (.loop f8l0) ⟨[(4, p), (7, iv k), (8, .ow ⟨8, c, o⟩ 1 0 (fewOf k (l.take i)).length), (9, .ow ⟨9, 3, 1⟩ 1 0 0), (32, .t (ul l)), (33, iv l.length), (34, iv i)], [(⟨9, 3, 1⟩, .row 3 1 [] false), (⟨8, c, o⟩, .row 3 1 (cl (fewOf k (l.take i))) false), (⟨4, 0, 0⟩, .box 25 [bx, mn])], ck⟩ =
    some (.exit 0, ⟨[(4, p), (7, iv k), (8, .ow ⟨8, c', o'⟩ 1 0 (fewOf k l).length), (9, .ow ⟨9, 3, 1⟩ 1 0 0), (32, .t (ul l)), (33, iv l.length), (34, iv l.length), (35, bv false)], [(⟨9, 3, 1⟩, .row 3 1 [] false), (⟨8, c', o'⟩, .row 3 1 (cl (fewOf k l)) false), (⟨4, 0, 0⟩, .box 25 [bx, mn])], ck'⟩) := by
  intro m
  induction m with
  | zero =>
    intro i c o ck h
    obtain rfl : i = l.length := by omega
    refine ⟨c, o, ck + 1, ?_⟩
    rw [evL_loop]
    simp [f8l0e]
  | succ m ih =>
    intro i c o ck h
    have hi : i < l.length := by omega
    have hui := hu _ (List.getElem_mem hi)
    have hw : IntKind.i64.wrap ((i : Int) + 1) = (i : Int) + 1 := wrap_id (by omega) (by omega)
    have hw2 : IntKind.i64.wrap l[i] = l[i] := wrap_id (by have := hui.1; omega) (by have := hui.2; omega)
    have ht : fewOf k (l.take (i + 1)) = fewOf k (l.take i) ++ [if k < l[i] then k else l[i]] := by
      unfold fewOf
      rw [List.take_add_one, List.getElem?_eq_getElem hi, List.map_append]
      simp
    obtain ⟨c', o', ck', hc⟩ := ih (i + 1) (ck + 2) 6 (ck + 4) (by omega)
    refine ⟨c', o', ck', ?_⟩
    have hb : ((fewOf k (l.take i)).length + 1) * 8 ≤ 140737488355328 := by simp [fewOf]; omega
    rw [evL_loop_n (s1 := ⟨[(4, p), (7, iv k), (8, .ow ⟨8, ck + 2, 6⟩ 1 0 (fewOf k (l.take (i + 1))).length), (9, .ow ⟨9, 3, 1⟩ 1 0 0), (32, .t (ul l)), (33, iv l.length), (34, iv ((i + 1 : Nat) : Int))], [(⟨9, 3, 1⟩, .row 3 1 [] false), (⟨8, ck + 2, 6⟩, .row 3 1 (cl (fewOf k (l.take (i + 1)))) false), (⟨4, 0, 0⟩, .box 25 [bx, mn])], ck + 4⟩), hc]
    rw [ht]
    generalize fewOf k (l.take i) = F at hb
    simp [f8l0e, ul, hi, hw, hw2, minmax, rowsOf, treesC, treesOf, treeOf, keysOfs, freezeAll, app, elsOf, cl, hb]

theorem calm_many (hs : List (List Int)) (p e kk f : V) (k : Int) (r8 : Key × Ob) (hk8 : r8.1.s = 8) (hh : hs.length ≤ 30) (hk : 1 ≤ k) (hk2 : k ≤ 1048576) : ∀ (m i c o ck : Nat), i + m = hs.length → ∃ c' o' ck', evL cfg (.loop f8l1) ⟨[(4, p), (7, iv k), (8, f), (9, .ow ⟨9, c, o⟩ 1 0 i), (48, iv hs.length), (49, iv i)], [(⟨9, c, o⟩, .row 3 1 (cl (List.replicate i (4 * k))) false), r8, (⟨4, 0, 0⟩, .box 25 [e, .t (gl hs)])], ck⟩ =
    some (.exit 2, ⟨[(4, p), (7, iv k), (8, f), (9, .ow ⟨9, c', o'⟩ 1 0 hs.length), (48, iv hs.length), (49, iv hs.length), (50, bv false)], [(⟨9, c', o'⟩, .row 3 1 (cl (List.replicate hs.length (4 * k))) false), r8, (⟨4, 0, 0⟩, .box 25 [e, .t (gl hs)])], ck'⟩) := by
  intro m
  induction m with
  | zero =>
    intro i c o ck h
    obtain rfl : i = hs.length := by omega
    refine ⟨c, o, ck + 1, ?_⟩
    rw [evL_loop]
    simp [f8l1e]
  | succ m ih =>
    intro i c o ck h
    have hi : i < hs.length := by omega
    have hw : IntKind.i64.wrap ((i : Int) + 1) = (i : Int) + 1 := wrap_id (by omega) (by omega)
    have hw2 : IntKind.i64.wrap (4 * k) = 4 * k := wrap_id (by omega) (by omega)
    obtain ⟨c', o', ck', hc⟩ := ih (i + 1) (ck + 1) 4 (ck + 3) (by omega)
    refine ⟨c', o', ck', ?_⟩
    have hb : (i + 1) * 8 ≤ 140737488355328 := by omega
    rw [evL_loop_n (s1 := ⟨[(4, p), (7, iv k), (8, f), (9, .ow ⟨9, ck + 1, 4⟩ 1 0 (i + 1)), (48, iv hs.length), (49, iv ((i + 1 : Nat) : Int))], [(⟨9, ck + 1, 4⟩, .row 3 1 (cl (List.replicate (i + 1) (4 * k))) false), r8, (⟨4, 0, 0⟩, .box 25 [e, .t (gl hs)])], ck + 3⟩), hc]
    have hr : cl (List.replicate (i + 1) (4 * k)) = cl (List.replicate i (4 * k)) ++ [[.i .i64 (4 * k)]] := by
      rw [List.replicate_succ']; simp [cl]
    rw [hr]
    have hcl : ((cl (List.replicate i (4 * k))).all fun c => c.length == 1) = true := List.all_eq_true.2 fun c hc => by simpa using cl_one _ c hc
    have hll : (cl (List.replicate i (4 * k))).length = i := by simp [cl]
    generalize cl (List.replicate i (4 * k)) = F at hcl hll
    simp [f8l1e, hi, hw, hw2, rowsOf, treesC, treesOf, treeOf, keysOfs, freezeAll, app, elsOf, hb, hcl, hll]

theorem cnt_few (k : Int) (hk : 0 ≤ k) (l : List Int) (x : Int) : cnt (fewOf k l) x ≤ k := by
  unfold cnt
  split
  · rename_i h
    have hx : x.toNat < (fewOf k l).length := by omega
    have hx2 : x.toNat < l.length := by simpa [fewOf] using hx
    rw [List.getD_eq_getElem?_getD, List.getElem?_eq_getElem hx, Option.getD_some]
    simp only [fewOf, List.getElem_map]
    split <;> omega
  · exact hk

theorem few_calm {k : Int} {l : List Int} {e : Int} {h : List (List Int)} {x n : Int} {ok : Bool} (hR : hotR (fewOf k l) e h k = tu3 x n ok) : ok = false := by
  cases ok with
  | false => rfl
  | true =>
    obtain ⟨h1, h2, h3, _⟩ := hotR_ok hR
    obtain ⟨h4, h5, _⟩ := may_right h1
    rcases h2 with ⟨h6, _⟩ | ⟨j, rfl, hj, hc, _⟩
    · omega
    · simp only [hotC, Bool.and_eq_true, decide_eq_true_eq, List.getD_eq_getElem?_getD, List.getElem?_eq_getElem hj, Option.getD_some] at hc
      have h7 := cnt_few k (by omega) l j
      have h8 := (right_row' h4 (List.getElem_mem hj)).2
      have h9 : 0 < h[j].length := by
        cases hv : h[j] with
        | nil => exact absurd hv h8
        | cons a r => simp
      have h10 : k * 1 ≤ k * (h[j].length : Int) := Int.mul_le_mul_of_nonneg_left (by omega) (by omega)
      have := hc.1
      omega

theorem many_calm {k : Int} {e : Int} {h : List (List Int)} {x n : Int} {ok : Bool} (hR : coldR (List.replicate h.length (4 * k)) e h k = tu3 x n ok) : ok = false := by
  cases ok with
  | false => rfl
  | true =>
    obtain ⟨h1, h2, h3, _⟩ := coldR_ok hR
    obtain ⟨h4, h5, _⟩ := may_right h1
    rcases h2 with ⟨h6, _⟩ | ⟨j, rfl, hj, hc, _⟩
    · omega
    · simp only [coldC, Bool.and_eq_true, decide_eq_true_eq, List.getD_eq_getElem?_getD, List.getElem?_eq_getElem hj, Option.getD_some] at hc
      have h7 : cnt (List.replicate h.length (4 * k)) j = 4 * k := by
        unfold cnt
        rw [if_pos (by simp; omega), List.getD_eq_getElem?_getD, List.getElem?_replicate]
        simp [hj]
      have h8 := rowUp_len (right_row' h4 (List.getElem_mem hj)).1
      have h10 : k * ((h[j].length : Int) - 1) ≤ k * 3 := Int.mul_le_mul_of_nonneg_left (by omega) (by omega)
      have := hc.2
      omega
set_option maxHeartbeats 4000000 in
theorem lcalm (l : List Int) (e : Int) (h : List (List Int)) (b : Int) (hu : ∀ n ∈ l, U32 n) (hb : U32 b) : ∃ hp c, runL cfg 8 [.t (ul l), .ag [iv e, .t (gl h)], .t (.i .u32 b)] [] 0 = some (bv true, hp, c) := by
  have ha := fun s k => callEv_tr (C := cfg) awake_ret rfl rfl rfl s k
  have haq := fun hp => callQ_tr (C := cfg) awake_ret rfl hp
  have hs := fun s k => callEv_tr (C := cfg) (small_ret h) rfl rfl rfl s k
  simp only [gl, bv] at ha haq hs
  rw [runL_pf (fn := f8) rfl rfl]
  by_cases h60 : (60 : Int) < l.length
  · simp [h60, ha, gl, ul]
  · by_cases h2 : small h = true
    · obtain ⟨hh, hr⟩ := small_iff.1 h2
      have hh2 : h.length ≤ 1000000 := by omega
      have hr2 : ∀ r ∈ h, r.length ≤ 1000000 := fun r hx => by have := hr r hx; omega
      have hl2 : l.length ≤ 60 := by omega
      have hb1 : b.tmod 1048576 = b % 1048576 := Int.tmod_eq_emod_of_nonneg hb.1
      have hb2 : 0 ≤ b % 1048576 ∧ b % 1048576 < 1048576 := by omega
      obtain ⟨k, hk⟩ : ∃ k, k = 1 + b % 1048576 := ⟨_, rfl⟩
      have hw1 : IntKind.i64.wrap (b % 1048576) = b % 1048576 := wrap_id (by omega) (by omega)
      have hw2 : IntKind.i64.wrap (1 + b % 1048576) = k := by rw [wrap_id (by omega) (by omega), hk]
      obtain ⟨x, n, ok, hH⟩ := hotR_tu (fewOf k l) e h k
      obtain ⟨y, m, is, hC⟩ := coldR_tu (List.replicate h.length (4 * k)) e h k
      obtain rfl := few_calm hH
      obtain rfl := many_calm hC
      have h1 := fun (k' : Key) (ty : Nat) => callEv_ow (C := cfg) (k := k') (ty := ty) (sz := 1) (fz := false) (hot_ret (fewOf k l) e h k hh2 hr2) (n := (fewOf k l).length) (by simp) rfl rfl rfl (by rw [hH]; rfl)
      have h3 := fun (k' : Key) (ty : Nat) => callEv_ow (C := cfg) (k := k') (ty := ty) (sz := 1) (fz := false) (cold_ret (List.replicate h.length (4 * k)) e h k hh2 hr2) (n := h.length) (by simp) rfl rfl rfl (by rw [hC]; rfl)
      obtain ⟨c', o', ck', hf⟩ := calm_few l (.pt ⟨4, 0, 0⟩ 2 0 0) (iv e) (.t (gl h)) k [] hl2 hu l.length 0 3 0 5 (by omega)
      obtain ⟨d', p', dk', hg⟩ := calm_many h (.pt ⟨4, 0, 0⟩ 2 0 0) (iv e) (iv e) (.ow ⟨8, c', o'⟩ 1 0 (fewOf k l).length) k (⟨8, c', o'⟩, .row 3 1 (cl (fewOf k l)) false) rfl hh (by omega) (by omega) h.length 0 3 1 (ck' + 1) (by omega)
      rw [h2] at hs
      simp only [hH, hC, tu3, gl, bv, il, iv] at h1 h3
      rw [List.take_zero, show fewOf k [] = [] from rfl] at hf
      generalize fewOf k l = F at hf hg h1
      simp only [gl, bv, il, iv, ul, cl, List.map_nil, List.length_nil, Int.natCast_zero, List.replicate_zero] at hf hg h1 h3
      simp [h60, ha, haq, hs, h1, h3, hf, hg, gl, ul, over, hb1, hw1, hw2]
    · have h2' : small h = false := by simpa using h2
      simp [h60, ha, hs, h2', gl, ul]

theorem u_u32 : PP.underlying 41 = some (.int .u32) := by kernel_rfl
theorem u_u32s : PP.underlying 40 = some (.slice 41) := by kernel_rfl
theorem u32_wf {n : Int} (h : (Lit.int .u32 n).wf = true) : U32 n := by
  simp only [Lit.wf, Bool.and_eq_true, decide_eq_true_eq] at h
  have h1 : IntKind.u32.min = 0 := by decide
  have h2 : IntKind.u32.max = 4294967295 := by decide
  exact ⟨by omega, by omega⟩
theorem a_u32 {k : Nat} {x : V} (h : ArgFit PP (k + 1) 41 x) : ∃ m : Int, x = .t (.i .u32 m) ∧ U32 m := by
  obtain ⟨m, rfl, hw⟩ := argFit_int u_u32 h
  exact ⟨m, rfl, u32_wf hw⟩
theorem a_u32s {k : Nat} {x : V} (h : ArgFit PP (k + 2) 40 x) : ∃ l : List Int, x = .t (ul l) ∧ ∀ n ∈ l, U32 n := by
  obtain ⟨l, rfl, _, hw⟩ := argFit_slice (mk := fun n : Int => [.i .u32 n]) (Q := U32) u_u32s (fun c h => by
    obtain ⟨m, rfl, hw⟩ := fits_int u_u32 h
    exact ⟨m, rfl, u32_wf hw⟩) h
  exact ⟨l, rfl, hw⟩

theorem loadCalm_ev (xs : List V) (h : ArgsFit PP 8 [40, 25, 41] xs) : ∃ hp c, runL cfg 8 xs [] 0 = some (bv true, hp, c) := by
  obtain ⟨x1, r, rfl, h1, h⟩ := argsFit_cons h
  obtain ⟨x2, r, rfl, h2, h⟩ := argsFit_cons h
  obtain ⟨x3, r, rfl, h3, h⟩ := argsFit_cons h
  cases argsFit_nil h
  obtain ⟨l, rfl, hl⟩ := a_u32s h1
  obtain ⟨e, m, rfl, he, hm⟩ := a_map h2
  obtain ⟨b, rfl, hb⟩ := a_u32 h3
  exact lcalm l e m b hl hb
end Go.Proofs.Ytchjpboiebdabaa.Pv
