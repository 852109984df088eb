/- What the document's Piece of the layer 22 tells: the whole. -/
import Derived.Test.YthkehbdljckbdaaSPiece2
set_option linter.unusedVariables false
set_option linter.unusedSimpArgs false
namespace Go.Proofs.Ythkehbdljckbdaa.Pv
open Go Go.Pev

theorem all_con (l : List Bool) : l.all id = !l.contains false := by
  induction l with
  | nil => rfl
  | cons b l ih => cases b <;> simp_all

set_option maxHeartbeats 8000000 in
theorem rpiece_ret (m : Mv) (i : Int) (s : List UInt8) (hh : m.has.length ≤ 1000) (hg : m.got.length ≤ 1000) (hy : ∀ y ∈ m.got, y.length ≤ 900) (hs : s.length ≤ 900) : RetT cfg 36 [mvV m, iv i, .t (.s s)] (pieV (pieceP m i s)) := by
  obtain ⟨x, f, t, p, sm, has, got⟩ := m
  simp only at hh hg hy
  unfold RetT
  rw [runL_pf (fn := f36) rfl rfl]
  unfold pieceP
  by_cases h1 : p = 1
  case neg =>
    rw [if_pos (.inl h1)]
    have d1 : (p != 1) = true := by simpa using h1
    simp [mvV, bl, sl, d1, over]
    refine ⟨_, _, ⟨rfl, rfl⟩, ?_⟩
    simp [pieV, mvV, resOf, resOfs, resOf1, treesOf, treeOf, bl, sl]
  subst h1
  by_cases h2 : has.length = got.length
  case neg =>
    rw [if_pos (.inr (.inl h2))]
    have d2 : ((has.length : Int) != (got.length : Int)) = true := by simp; omega
    simp [mvV, bl, sl, d2, over]
    refine ⟨_, _, ⟨rfl, rfl⟩, ?_⟩
    simp [pieV, mvV, resOf, resOfs, resOf1, treesOf, treeOf, bl, sl]
  by_cases h3 : i < 0
  · rw [if_pos (.inr (.inr (.inl h3)))]
    simp [mvV, bl, sl, h2, h3, over]
    refine ⟨_, _, ⟨rfl, rfl⟩, ?_⟩
    simp [pieV, mvV, resOf, resOfs, resOf1, treesOf, treeOf, bl, sl]
  have d3 : decide (i < 0) = false := decide_eq_false h3
  by_cases h4 : (has.length : Int) ≤ i
  · rw [if_pos (.inr (.inr (.inr h4)))]
    have h4' : (got.length : Int) ≤ i := by omega
    simp [mvV, bl, sl, h2, d3, h4', over]
    refine ⟨_, _, ⟨rfl, rfl⟩, ?_⟩
    simp [pieV, mvV, resOf, resOfs, resOf1, treesOf, treeOf, bl, sl]
  obtain ⟨j, rfl⟩ : ∃ j : Nat, i = j := ⟨i.toNat, by omega⟩
  have hj : j < has.length := by omega
  have hjg : j < got.length := by omega
  have d4 : decide (has.length ≤ j) = false := decide_eq_false (by omega)
  have d4' : decide (got.length ≤ j) = false := decide_eq_false (by omega)
  rw [if_neg (by simp only [h2]; omega)]
  have hgd : has.getD j false = has[j] := by simp [List.getD_eq_getElem?_getD, List.getElem?_eq_getElem hj]
  simp only [Int.toNat_natCast, hgd]
  by_cases h5 : has[j] = true
  · rw [if_pos h5]
    simp [mvV, bl, sl, h2, d3, hjg, hj, d4', h5, over]
    refine ⟨_, _, ⟨rfl, rfl⟩, ?_⟩
    simp [pieV, mvV, resOf, resOfs, resOf1, treesOf, treeOf, bl, sl]
  rw [if_neg h5]
  have h5 : has[j] = false := by simpa using h5
  obtain ⟨sA, c2, o2, sB, c3, o3, ck1, hst, l1⟩ := rp_first x f t sm has got j s (by omega) (by omega) 7
  have tH : (has.set j true).take 1 = [if j = 0 then true else has[0]] := by
    rw [List.take_succ_eq_append_getElem (by simp; omega), List.getElem_set]; simp
  have tG : (got.set j s).take 1 = [if j = 0 then s else got[0]] := by
    rw [List.take_succ_eq_append_getElem (by simp; omega), List.getElem_set]; simp
  obtain ⟨c2', o2', c3', o3', ck2, l2⟩ := rp_loop x f t sm has got j s h2 hg hj hst (has.length - 1) 1 c2 o2 c3 o3 ck1 (by omega)
  rw [tH, tG] at l2
  have hid : ([if j = 0 then true else has[0]] : List Bool).all id = (if j = 0 then true else has[0]) := by simp
  rw [hid] at l2
  have hl : evL cfg (.loop f36l0) _ = _ := (evL_loop_n l1).trans l2
  clear l1 l2 hid tH tG
  have e1 : ¬ sA = 8 := by rcases hst with ⟨rfl, rfl⟩ | ⟨rfl, rfl⟩ <;> decide
  have e2 : ¬ sA = 3 := by rcases hst with ⟨rfl, rfl⟩ | ⟨rfl, rfl⟩ <;> decide
  have e3 : ¬ sB = 8 := by rcases hst with ⟨rfl, rfl⟩ | ⟨rfl, rfl⟩ <;> decide
  have e4 : ¬ sB = 3 := by rcases hst with ⟨rfl, rfl⟩ | ⟨rfl, rfl⟩ <;> decide
  have e5 : ¬ sB = sA := by rcases hst with ⟨rfl, rfl⟩ | ⟨rfl, rfl⟩ <;> decide
  have e6 : ¬ sA = sB := fun h => e5 h.symm
  have e7 : ¬ sA = 6 := by rcases hst with ⟨rfl, rfl⟩ | ⟨rfl, rfl⟩ <;> decide
  have e8 : ¬ sB = 6 := by rcases hst with ⟨rfl, rfl⟩ | ⟨rfl, rfl⟩ <;> decide
  have hsl : (has.set j true).length = has.length := by simp
  have hgl : (got.set j s).length = got.length := by simp
  have hfl : (got.set j s).flatten.length ≤ 1000000 := by
    have := flat_len (b := 900) (got.set j s) (fun y hm => by
      rcases List.mem_or_eq_of_mem_set hm with hm | rfl
      · exact hy y hm
      · exact hs)
    rw [hgl] at this
    omega
  have hjoi : ∀ (hp : HP), hp.get ⟨sB, c3', o3'⟩ = some (.row 9 1 ((got.set j s).map fun b => [.s b]) false) → callQ (runL cfg) 38 [.ow ⟨sB, c3', o3'⟩ 1 0 got.length] hp = some (.t (.s (got.set j s).flatten)) := fun hp hg =>
    callQ_t (C := cfg) (ps := [.t (sl (got.set j s))]) (by simp only [puresOf]; rw [pureOf_ow hg (by simp)]; rfl) (rjoin_ret (got.set j s) (by omega) hfl) (.inl rfl)
  have hcrc := fun hp => callQ_tr (C := cfg) (rsum_ret (got.set j s).flatten hfl) rfl hp
  rw [all_con] at hl
  simp only [rp0, rpH, bl, sl, iv, bv, hsl, hgl] at hl hcrc
  have h3g : IntKind.i64.wrap 0 = 0 := by decide
  generalize crcI (got.set j s).flatten = cr at *
  generalize (got.set j s).flatten = fl at *
  by_cases h6 : (has.set j true).contains false = true
  · rw [if_pos h6]
    rw [h6] at hl
    simp [mvV, bl, sl, h2, d3, hjg, hj, d4', h5, over, e1, e2, e3, e4, e5, e6, e7, e8]
    rw [h2] at hl
    simp [hl, over, e1, e2, e3, e4, e5, e6, e7, e8]
    refine ⟨_, _, ⟨rfl, rfl⟩, ?_⟩
    simp [pieV, mvV, resOf, resOfs, resOf1, treesOf, treeOf, bl, sl, List.map_set, h2, e1, e2, e3, e4, e5, e6, e7, e8]
    try exact ⟨List.take_of_length_le (by simp; omega), List.take_of_length_le (by simp)⟩
  · rw [if_neg h6]
    have h6 : (has.set j true).contains false = false := by simpa using h6
    rw [h6, h2] at hl
    by_cases h7 : cr = sm
    · rw [if_neg (by simp [h7])]
      simp [mvV, bl, sl, h2, d3, hjg, hj, d4', h5, over, hl, hjoi, hcrc, h7, e1, e2, e3, e4, e5, e6, e7, e8]
      refine ⟨_, _, ⟨rfl, rfl⟩, ?_⟩
      simp [pieV, mvV, resOf, resOfs, resOf1, treesOf, treeOf, bl, sl, List.map_set, h2, e1, e2, e3, e4, e5, e6, e7, e8]
      try exact ⟨List.take_of_length_le (by simp; omega), List.take_of_length_le (by simp)⟩
    · rw [if_pos h7]
      have h7' : (cr != sm) = true := by simpa using h7
      simp [mvV, bl, sl, h2, d3, hjg, hj, d4', h5, over, hl, hjoi, hcrc, h7', e1, e2, e3, e4, e5, e6, e7, e8]
      refine ⟨_, _, ⟨rfl, rfl⟩, ?_⟩
      simp [pieV, mvV, resOf, resOfs, resOf1, treesOf, treeOf, bl, sl, List.map_set, h2, e1, e2, e3, e4, e5, e6, e7, e8]
      try exact ⟨List.take_of_length_le (by simp; omega), List.take_of_length_le (by simp)⟩
end Go.Proofs.Ythkehbdljckbdaa.Pv
