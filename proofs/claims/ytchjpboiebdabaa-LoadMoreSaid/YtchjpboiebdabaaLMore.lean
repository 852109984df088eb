/- LoadMore, reckoned. -/
import Derived.Test.YtchjpboiebdabaaPure1
import Derived.Test.YtchjpboiebdabaaLCalm
set_option linter.unusedVariables false
set_option linter.unusedSimpArgs false
namespace Go.Proofs.Ytchjpboiebdabaa.Pv
open Go Go.Pev

def modOf (l : List Int) : List Int := l.map fun n => n % 2147483646

theorem more_loop (l : List Int) (hi_ p bx mn : V) (hl : l.length ≤ 8) (hu : ∀ n ∈ l, U32 n) : ∀ (m i c o ck : Nat), i + m = l.length → ∃ c' o' ck', evL cfg (.loop f6l0) ⟨[(2, hi_), (4, p), (7, .ow ⟨7, c, o⟩ 1 0 (modOf (l.take i)).length), (26, .t (ul l)), (27, iv l.length), (28, iv i)], [(⟨7, c, o⟩, .row 3 1 (cl (modOf (l.take i))) false), (⟨4, 0, 0⟩, .box 25 [bx, mn])], ck⟩ =
    some (.exit 0, ⟨[(2, hi_), (4, p), (7, .ow ⟨7, c', o'⟩ 1 0 (modOf l).length), (26, .t (ul l)), (27, iv l.length), (28, iv l.length), (29, bv false)], [(⟨7, c', o'⟩, .row 3 1 (cl (modOf l)) false), (⟨4, 0, 0⟩, .box 25 [bx, mn])], ck'⟩) := by
  intro m
  induction m with
  | zero =>
    intro i c o ck h
    obtain rfl : i = l.length := by omega
    refine ⟨c, o, ck + 1, ?_⟩
    rw [evL_loop]
    simp [f6l0e]
  | succ m ih =>
    intro i c o ck h
    have hi : i < l.length := by omega
    have hui := hu _ (List.getElem_mem hi)
    have hw : IntKind.i64.wrap ((i : Int) + 1) = (i : Int) + 1 := wrap_id (by omega) (by omega)
    have hm1 : l[i].tmod 2147483646 = l[i] % 2147483646 := Int.tmod_eq_emod_of_nonneg hui.1
    have hw2 : IntKind.i64.wrap (l[i] % 2147483646) = l[i] % 2147483646 := wrap_id (by omega) (by omega)
    have ht : modOf (l.take (i + 1)) = modOf (l.take i) ++ [l[i] % 2147483646] := by
      unfold modOf
      rw [List.take_add_one, List.getElem?_eq_getElem hi, List.map_append]
      simp
    obtain ⟨c', o', ck', hc⟩ := ih (i + 1) (ck + 2) 5 (ck + 4) (by omega)
    refine ⟨c', o', ck', ?_⟩
    have hb : ((modOf (l.take i)).length + 1) * 8 ≤ 140737488355328 := by simp [modOf]; omega
    rw [evL_loop_n (s1 := ⟨[(2, hi_), (4, p), (7, .ow ⟨7, ck + 2, 5⟩ 1 0 (modOf (l.take (i + 1))).length), (26, .t (ul l)), (27, iv l.length), (28, iv ((i + 1 : Nat) : Int))], [(⟨7, ck + 2, 5⟩, .row 3 1 (cl (modOf (l.take (i + 1)))) false), (⟨4, 0, 0⟩, .box 25 [bx, mn])], ck + 4⟩), hc]
    rw [ht]
    generalize modOf (l.take i) = F at hb
    simp [f6l0e, ul, hi, hw, hw2, hm1, rowsOf, treesC, treesOf, treeOf, keysOfs, freezeAll, app, elsOf, cl, hb]

theorem cnt_mod (l : List Int) (x : Int) : 0 ≤ cnt (modOf l) x ∧ cnt (modOf l) x < 2147483646 := by
  unfold cnt
  split
  · rename_i h
    have hx : x.toNat < (modOf l).length := by omega
    rw [List.getD_eq_getElem?_getD, List.getElem?_eq_getElem hx, Option.getD_some]
    simp only [modOf, List.getElem_map]
    omega
  · omega

/-- One ask more of the one that Hot tells leaves it so. -/
theorem hot_again {l : List Int} {e : Int} {h : List (List Int)} {b x n : Int} (hl : ∀ y, 0 ≤ cnt l y ∧ cnt l y < 2147483646) (hR : hotR l e h b = tu3 x n true) : hotR (note l x) e h b = tu3 x n true := by
  obtain ⟨h1, h2, h3, h4⟩ := hotR_ok hR
  obtain ⟨h5, _⟩ := may_right h1
  have h8 := (right_e h5).2.2
  rcases h2 with ⟨h6, _⟩ | ⟨j, rfl, hj, hc, hb⟩
  · omega
  · have hlj := hl j
    have hn := fun y => cnt_note (l := l) (x := (j : Int)) (by omega) (by omega) (by omega) (by omega) y
    rw [h4]
    refine hotR_of h1 (.inr ⟨j, rfl, hj, ?_, fun i hi hci => ?_⟩) (by omega)
    · simp only [hotC, Bool.and_eq_true, decide_eq_true_eq] at hc ⊢
      rw [hn, if_pos rfl]
      exact ⟨by have := hc.1; omega, hc.2⟩
    · rw [hn, hn, if_pos rfl]
      by_cases e : i = j
      · subst e
        exact .inr ⟨by rw [if_pos rfl], Nat.le_refl _⟩
      · rw [if_neg (by omega)]
        have hci' : hotC l h b i = true := by
          simp only [hotC, Bool.and_eq_true, decide_eq_true_eq] at hci ⊢
          rw [hn, if_neg (by omega)] at hci
          exact hci
        have := hb i hi hci'
        omega

theorem cl_flat (l : List Int) : ((cl l).all fun c => c.all flatT) = true := by
  rw [List.all_eq_true]
  intro c hc
  obtain ⟨n, _, rfl⟩ := List.mem_map.1 hc
  rfl

set_option maxHeartbeats 4000000 in
theorem lmore (l : List Int) (e : Int) (h : List (List Int)) (b : Int) (hu : ∀ n ∈ l, U32 n) : ∃ hp c, runL cfg 6 [.t (ul l), .ag [iv e, .t (gl h)], iv b] [] 0 = some (bv true, hp, c) := by
  have ha := fun s k => callEv_tr (C := cfg) awake_ret rfl rfl rfl s k
  have haq := fun hp => callQ_tr (C := cfg) awake_ret rfl hp
  have hs := fun s k => callEv_tr (C := cfg) (small_ret h) rfl rfl rfl s k
  simp only [gl, bv] at ha haq hs
  rw [runL_pf (fn := f6) rfl rfl]
  by_cases h60 : (8 : Int) < l.length
  · simp [h60, ha, gl, ul]
  · by_cases h2 : small h = true
    · obtain ⟨hh, hr⟩ := small_iff.1 h2
      have hh2 : h.length ≤ 1000000 := by omega
      have hr2 : ∀ r ∈ h, r.length ≤ 1000000 := fun r hx => by have := hr r hx; omega
      have hl2 : l.length ≤ 8 := by omega
      have hlm : (modOf l).length ≤ 8 := by simpa [modOf] using hl2
      have hcm := cnt_mod l
      obtain ⟨x, n, ok, hH⟩ := hotR_tu (modOf l) e h b
      have h1 := fun (k' : Key) (ty : Nat) => callEv_ow (C := cfg) (k := k') (ty := ty) (sz := 1) (fz := false) (hot_ret (modOf l) e h b hh2 hr2) (n := (modOf l).length) (by simp) rfl rfl rfl (by rw [hH]; rfl)
      obtain ⟨c', o', ck', hf⟩ := more_loop l (iv b) (.pt ⟨4, 0, 0⟩ 2 0 0) (iv e) (.t (gl h)) hl2 hu l.length 0 2 0 4 (by omega)
      rw [h2] at hs
      rw [List.take_zero, show modOf [] = [] from rfl] at hf
      generalize modOf l = F at hf h1 hH hlm hcm
      cases ok with
      | false =>
        obtain ⟨rfl, rfl⟩ := hotR_no hH
        simp only [hH, tu3, gl, bv, il, iv] at h1
        simp only [gl, bv, il, iv, ul, cl, List.map_nil, List.length_nil, Int.natCast_zero] at hf h1
        simp [h60, ha, haq, hs, h1, hf, gl, ul]
      | true =>
        have hH2 := hot_again hcm hH
        have hq1 : ∀ (hp : HP), hp.get ⟨7, c', o'⟩ = some (.row 3 1 (cl F) false) → callQ (runL cfg) 17 [.ow ⟨7, c', o'⟩ 1 0 F.length, iv x] hp = some (.t (il (note F x))) := fun hp hg => callQ_o (C := cfg) (by rw [puresOf, pureOf_ow hg (by simp [cl])]; rfl) (note_reto F x (by omega)) (cl_flat _)
        have hq2 := fun hp => callQ_tr (C := cfg) (hot_ret (note F x) e h b hh2 hr2) rfl hp
        simp only [hH, hH2, tu3, gl, bv, il, iv] at h1 hq1 hq2
        simp only [gl, bv, il, iv, ul, cl, List.map_nil, List.length_nil, Int.natCast_zero] at hf h1 hq1
        simp [h60, ha, haq, hs, h1, hf, hq1, hq2, gl, ul]
    · have h2' : small h = false := by simpa using h2
      simp [h60, ha, hs, h2', gl, ul]

theorem loadMore_ev (xs : List V) (h : ArgsFit PP 8 [40, 25, 3] xs) : ∃ hp c, runL cfg 6 xs [] 0 = some (bv true, hp, c) := by
  obtain ⟨x1, r, rfl, h1, h⟩ := argsFit_cons h
  obtain ⟨x2, r, rfl, h2, h⟩ := argsFit_cons h
  obtain ⟨x3, r, rfl, h3, h⟩ := argsFit_cons h
  cases argsFit_nil h
  obtain ⟨l, rfl, hl⟩ := a_u32s h1
  obtain ⟨e, m, rfl, he, hm⟩ := a_map h2
  obtain ⟨b, rfl, hb⟩ := a_int h3
  exact lmore l e m b hl
end Go.Proofs.Ytchjpboiebdabaa.Pv
