/- What the document's Piece of the layer 22 tells. -/
import Derived.Test.YthkehbdljckbdaaSPiece
set_option linter.unusedVariables false
set_option linter.unusedSimpArgs false
namespace Go.Proofs.Ythkehbdljckbdaa.Pv
open Go Go.Pev

def rp0 (x f t sm : Int) (has : List Bool) (got : List (List UInt8)) (vs gs : V) : HP := [(⟨8, 3, 1⟩, .box 51 [iv x, iv f, iv t, iv 1, iv sm, vs, gs]), (⟨6, 0, 1⟩, .box 51 [iv 0, iv 0, iv 0, iv 0, iv 0, .nl, .nl]), (⟨3, 0, 0⟩, .box 51 [iv x, iv f, iv t, iv 1, iv sm, .t (bl has), .t (sl got)])]
def rpH (x f t sm : Int) (has : List Bool) (got : List (List UInt8)) (H : List Bool) (G : List (List UInt8)) (sA c2 o2 sB c3 o3 : Nat) : HP :=
  (⟨sB, c3, o3⟩, .row 9 1 (G.map fun y => [.s y]) false) :: (⟨sA, c2, o2⟩, .row 4 1 (H.map fun y => [.b y]) false) :: rp0 x f t sm has got (.ow ⟨sA, c2, o2⟩ 1 0 H.length) (.ow ⟨sB, c3, o3⟩ 1 0 G.length)
def Sites (sA sB : Nat) : Prop := (sA = 57 ∧ sB = 63) ∨ (sA = 73 ∧ sB = 83)

set_option maxHeartbeats 4000000 in
theorem rp_first (x f t sm : Int) (has : List Bool) (got : List (List UInt8)) (j : Nat) (s : List UInt8) (h0 : 0 < has.length) (hg0 : 0 < got.length) (ck : Nat) : ∃ sA c2 o2 sB c3 o3 ck', Sites sA sB ∧ evL cfg f36l0 ⟨[(1, iv j), (2, .t (.s s)), (3, .pt ⟨3, 0, 0⟩ 7 0 0), (6, .pt ⟨6, 0, 1⟩ 7 0 0), (8, .pt ⟨8, 3, 1⟩ 7 0 0), (9, bv true), (10, iv 0)], rp0 x f t sm has got .nl .nl, ck⟩ =
    some (.normal, ⟨[(1, iv j), (2, .t (.s s)), (3, .pt ⟨3, 0, 0⟩ 7 0 0), (6, .pt ⟨6, 0, 1⟩ 7 0 0), (8, .pt ⟨8, 3, 1⟩ 7 0 0), (9, bv (if j = 0 then true else has[0])), (10, iv 1)], rpH x f t sm has got [if j = 0 then true else has[0]] [if j = 0 then s else got[0]] sA c2 o2 sB c3 o3, ck'⟩) := by
  have hw : IntKind.i64.wrap 1 = 1 := by decide
  by_cases hj : j = 0
  · subst hj
    refine ⟨57, ck + 2, 3, 63, ck + 3, 4, ck + 5, .inl ⟨rfl, rfl⟩, ?_⟩
    simp [f36l0e, rpH, rp0, bl, sl, h0, hw, rowsOf, keysOfs, treesC, treesOf, treeOf, freezeAll, app, elsOf, over]
  · refine ⟨73, ck + 2, 8, 83, ck + 3, 8, ck + 6, .inr ⟨rfl, rfl⟩, ?_⟩
    have hb : ((0 : Int) == (j : Int)) = false := by simp; omega
    simp [f36l0e, rpH, rp0, bl, sl, h0, hg0, hw, hb, hj, rowsOf, keysOfs, treesC, treesOf, treeOf, freezeAll, app, elsOf, over]

set_option maxHeartbeats 8000000 in
theorem rp_loop (x f t sm : Int) (has : List Bool) (got : List (List UInt8)) (j : Nat) (s : List UInt8) (hn : has.length = got.length) (hl : got.length ≤ 1000) (hj : j < has.length) {sA sB : Nat} (hs : Sites sA sB) : ∀ (k i : Nat) (c2 o2 c3 o3 ck : Nat), i + k = has.length → ∃ c2' o2' c3' o3' ck', evL cfg (.loop f36l0) ⟨[(1, iv j), (2, .t (.s s)), (3, .pt ⟨3, 0, 0⟩ 7 0 0), (6, .pt ⟨6, 0, 1⟩ 7 0 0), (8, .pt ⟨8, 3, 1⟩ 7 0 0), (9, bv (((has.set j true).take i).all id)), (10, iv i)], rpH x f t sm has got ((has.set j true).take i) ((got.set j s).take i) sA c2 o2 sB c3 o3, ck⟩ =
    some (.exit 0, ⟨[(1, iv j), (2, .t (.s s)), (3, .pt ⟨3, 0, 0⟩ 7 0 0), (6, .pt ⟨6, 0, 1⟩ 7 0 0), (8, .pt ⟨8, 3, 1⟩ 7 0 0), (9, bv ((has.set j true).all id)), (10, iv has.length), (48, bv false)], rpH x f t sm has got (has.set j true) (got.set j s) sA c2' o2' sB c3' o3', ck'⟩) := by
  have e1 : ¬ sA = 8 := by rcases hs with ⟨rfl, rfl⟩ | ⟨rfl, rfl⟩ <;> decide
  have e2 : ¬ sA = 3 := by rcases hs with ⟨rfl, rfl⟩ | ⟨rfl, rfl⟩ <;> decide
  have e3 : ¬ sB = 8 := by rcases hs with ⟨rfl, rfl⟩ | ⟨rfl, rfl⟩ <;> decide
  have e4 : ¬ sB = 3 := by rcases hs with ⟨rfl, rfl⟩ | ⟨rfl, rfl⟩ <;> decide
  have e5 : ¬ sB = sA := by rcases hs with ⟨rfl, rfl⟩ | ⟨rfl, rfl⟩ <;> decide
  have e6 : ¬ sA = sB := fun h => e5 h.symm
  intro k
  induction k with
  | zero =>
    intro i c2 o2 c3 o3 ck h
    obtain rfl : i = has.length := by omega
    refine ⟨c2, o2, c3, o3, ck + 1, ?_⟩
    rw [evL_loop, List.take_of_length_le (by simp), List.take_of_length_le (by simp; omega)]
    simp [f36l0e, rpH, rp0, bl, e1, e2, e3, e4]
  | succ k ih =>
    intro i c2 o2 c3 o3 ck h
    have hi : i < has.length := by omega
    have hig : i < got.length := by omega
    have hw : IntKind.i64.wrap ((i : Int) + 1) = (i : Int) + 1 := wrap_id (by omega) (by omega)
    have t1 : (has.set j true).take (i + 1) = (has.set j true).take i ++ [if j = i then true else has[i]] := by
      rw [List.take_succ_eq_append_getElem (by simpa using hi), List.getElem_set]
    have t2 : (got.set j s).take (i + 1) = (got.set j s).take i ++ [if j = i then s else got[i]] := by
      rw [List.take_succ_eq_append_getElem (by simpa using hig), List.getElem_set]
    have l1 : ((has.set j true).take i).length = i := by rw [List.length_take, List.length_set]; omega
    have l2 : ((got.set j s).take i).length = i := by rw [List.length_take, List.length_set]; omega
    have hb1 : (i + 1) ≤ 140737488355328 := by omega
    have hb2 : (i + 1) * 16 ≤ 140737488355328 := by omega
    by_cases hji : j = i
    · obtain ⟨c2', o2', c3', o3', ck', hc⟩ := ih (i + 1) (ck + 2) 3 (ck + 3) 4 (ck + 5) (by omega)
      refine ⟨c2', o2', c3', o3', ck', ?_⟩
      rw [← hc, evL_loop_n]
      rw [t1, t2, if_pos hji, if_pos hji]
      generalize (has.set j true).take i = P at *
      generalize (got.set j s).take i = Q at *
      have hb : ((i : Int) == (j : Int)) = true := by simp; omega
      simp [f36l0e, rpH, rp0, bl, sl, hi, hw, hb, l1, l2, hb1, hb2, e1, e2, e3, e4, e5, e6, rowsOf, keysOfs, treesC, treesOf, treeOf, freezeAll, app, elsOf, over]
    · obtain ⟨c2', o2', c3', o3', ck', hc⟩ := ih (i + 1) (ck + 2) 8 (ck + 3) 8 (ck + 6) (by omega)
      refine ⟨c2', o2', c3', o3', ck', ?_⟩
      rw [← hc, evL_loop_n]
      rw [t1, t2, if_neg hji, if_neg hji]
      generalize (has.set j true).take i = P at *
      generalize (got.set j s).take i = Q at *
      have hb : ((i : Int) == (j : Int)) = false := by simp; omega
      cases hall : P.all id
      · have hall2 : (P ++ [has[i]]).all id = false := by rw [List.all_append, hall]; rfl
        rw [hall2]
        simp [f36l0e, rpH, rp0, bl, sl, hi, hig, hw, hb, l1, l2, hb1, hb2, e1, e2, e3, e4, e5, e6, rowsOf, keysOfs, treesC, treesOf, treeOf, freezeAll, app, elsOf, over]
      · have hall2 : (P ++ [has[i]]).all id = has[i] := by rw [List.all_append, hall]; simp
        rw [hall2]
        simp [f36l0e, rpH, rp0, bl, sl, hi, hig, hw, hb, l1, l2, hb1, hb2, e1, e2, e3, e4, e5, e6, rowsOf, keysOfs, treesC, treesOf, treeOf, freezeAll, app, elsOf, over]
end Go.Proofs.Ythkehbdljckbdaa.Pv
