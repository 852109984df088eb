/- What the document's Begin of the layer 22 tells. -/
import Derived.Test.YthkehbdljckbdaaSMove
set_option linter.unusedVariables false
set_option linter.unusedSimpArgs false
namespace Go.Proofs.Ythkehbdljckbdaa.Pv
open Go Go.Pev

def rb0 (x f t sm : Int) (vs gs : V) : HP := [(⟨15, 3, 6⟩, .box 51 [iv x, iv f, iv t, iv 1, iv sm, vs, gs]), (⟨12, 0, 1⟩, .box 51 [iv 0, iv 0, iv 0, iv 0, iv 0, .nl, .nl])]
def rbH (x f t sm : Int) (acc : List (List UInt8)) (c1 o1 c2 o2 c3 o3 : Nat) : HP :=
  (⟨109, c3, o3⟩, .row 9 1 (List.replicate acc.length [.s []]) false) :: (⟨104, c2, o2⟩, .row 4 1 (List.replicate acc.length [.b false]) false) :: (⟨16, c1, o1⟩, .row 9 1 (acc.map fun y => [.s y]) false) :: rb0 x f t sm (.ow ⟨104, c2, o2⟩ 1 0 acc.length) (.ow ⟨109, c3, o3⟩ 1 0 acc.length)

theorem piece_in {s : List UInt8} {i k en : Nat} (hen : en = i + k) : (s.take en).drop i = (s.drop i).take k := by
  rw [List.drop_take, hen]; congr 1; omega
theorem piece_end {s : List UInt8} {i k : Nat} (h : s.length ≤ i + k) : s.drop i = (s.drop i).take k := by
  rw [List.take_of_length_le]; rw [List.length_drop]; omega

set_option maxHeartbeats 4000000 in
theorem rb_first (x f t sm : Int) (s : List UInt8) (k : Nat) (hk : 1 ≤ k ∧ k ≤ 64) (hs : 0 < s.length) (hl : s.length ≤ 100000) (ck : Nat) : ∃ c1 o1 c2 o2 c3 o3 ck', evL cfg f30l0 ⟨[(4, .t (.s s)), (5, iv k), (12, .pt ⟨12, 0, 1⟩ 7 0 0), (15, .pt ⟨15, 3, 6⟩ 7 0 0), (16, .ow ⟨16, 4, 0⟩ 1 0 0), (17, iv 0)], (⟨16, 4, 0⟩, .row 9 1 [] false) :: rb0 x f t sm .nl .nl, ck⟩ =
    some (.normal, ⟨[(4, .t (.s s)), (5, iv k), (12, .pt ⟨12, 0, 1⟩ 7 0 0), (15, .pt ⟨15, 3, 6⟩ 7 0 0), (16, .ow ⟨16, c1, o1⟩ 1 0 1), (17, iv k)], rbH x f t sm [s.take k] c1 o1 c2 o2 c3 o3, ck'⟩) := by
  have hw : IntKind.i64.wrap (k : Int) = (k : Int) := wrap_id (by omega) (by omega)
  by_cases hlt : s.length < k
  · have d1 : decide ((s.length : Int) < (k : Int)) = true := decide_eq_true (by omega)
    have ht : s.take k = s := List.take_of_length_le (by omega)
    refine ⟨ck + 4, 6, ck + 5, 3, ck + 6, 3, ck + 8, ?_⟩
    rw [ht]
    simp [f30l0e, rbH, rb0, hs, hw, hlt, rowsOf, keysOfs, treesC, treesOf, treeOf, freezeAll, app, elsOf, over]
  · have hkl : k ≤ s.length := by omega
    refine ⟨ck + 3, 6, ck + 4, 3, ck + 5, 3, ck + 7, ?_⟩
    simp [f30l0e, rbH, rb0, hs, hw, hlt, hkl, rowsOf, keysOfs, treesC, treesOf, treeOf, freezeAll, app, elsOf, over]

set_option maxHeartbeats 4000000 in
theorem rb_loop (x f t sm : Int) (s : List UInt8) (k : Nat) (hk : 1 ≤ k ∧ k ≤ 64) (hl : s.length ≤ 100000) : ∀ (fu i : Nat) (acc : List (List UInt8)) (c1 o1 c2 o2 c3 o3 ck : Nat), s.length ≤ i + fu → i ≤ s.length + 64 → acc.length ≤ i → ∃ i' c1' o1' c2' o2' c3' o3' ck', evL cfg (.loop f30l0) ⟨[(4, .t (.s s)), (5, iv k), (12, .pt ⟨12, 0, 1⟩ 7 0 0), (15, .pt ⟨15, 3, 6⟩ 7 0 0), (16, .ow ⟨16, c1, o1⟩ 1 0 acc.length), (17, iv i)], rbH x f t sm acc c1 o1 c2 o2 c3 o3, ck⟩ =
    some (.exit 0, ⟨[(4, .t (.s s)), (5, iv k), (12, .pt ⟨12, 0, 1⟩ 7 0 0), (15, .pt ⟨15, 3, 6⟩ 7 0 0), (16, .ow ⟨16, c1', o1'⟩ 1 0 (acc ++ cut k (s.drop i)).length), (17, iv i'), (81, bv false)], rbH x f t sm (acc ++ cut k (s.drop i)) c1' o1' c2' o2' c3' o3', ck'⟩) := by
  have stop : ∀ (i : Nat) (acc : List (List UInt8)) (c1 o1 c2 o2 c3 o3 ck : Nat), s.length ≤ i → ∃ i' c1' o1' c2' o2' c3' o3' ck', evL cfg (.loop f30l0) ⟨[(4, .t (.s s)), (5, iv k), (12, .pt ⟨12, 0, 1⟩ 7 0 0), (15, .pt ⟨15, 3, 6⟩ 7 0 0), (16, .ow ⟨16, c1, o1⟩ 1 0 acc.length), (17, iv i)], rbH x f t sm acc c1 o1 c2 o2 c3 o3, ck⟩ =
    some (.exit 0, ⟨[(4, .t (.s s)), (5, iv k), (12, .pt ⟨12, 0, 1⟩ 7 0 0), (15, .pt ⟨15, 3, 6⟩ 7 0 0), (16, .ow ⟨16, c1', o1'⟩ 1 0 (acc ++ cut k (s.drop i)).length), (17, iv i'), (81, bv false)], rbH x f t sm (acc ++ cut k (s.drop i)) c1' o1' c2' o2' c3' o3', ck'⟩) := by
    intro i acc c1 o1 c2 o2 c3 o3 ck h
    have hd : decide (i < s.length) = false := decide_eq_false (by omega)
    refine ⟨i, c1, o1, c2, o2, c3, o3, ck + 1, ?_⟩
    rw [List.drop_of_length_le h, cut_nil, List.append_nil, evL_loop]
    simp [f30l0e, hd, rbH, rb0]
  intro fu
  induction fu with
  | zero =>
    intro i acc c1 o1 c2 o2 c3 o3 ck h _ _
    exact stop i acc c1 o1 c2 o2 c3 o3 ck (by omega)
  | succ fu ih =>
    intro i acc c1 o1 c2 o2 c3 o3 ck h hi64 hacc
    by_cases hi : i < s.length
    · have hne : s.drop i ≠ [] := fun e => by have := congrArg List.length e; rw [List.length_drop] at this; simp at this; omega
      rw [cut_cons hk.1 hne, List.drop_drop, List.append_cons]
      obtain ⟨en, hen⟩ : ∃ en : Nat, en = i + k := ⟨_, rfl⟩
      have hw : IntKind.i64.wrap ((i : Int) + (k : Int)) = (en : Int) := by rw [wrap_id (by omega) (by omega)]; omega
      have hb1 : acc.length + 1 ≤ 140737488355328 := by omega
      have hb2 : (acc.length + 1) * 16 ≤ 140737488355328 := by omega
      rw [← hen]
      by_cases hlt : s.length < en
      · obtain ⟨i', c1', o1', c2', o2', c3', o3', ck', hc⟩ := ih en (acc ++ [(s.drop i).take k]) (ck + 4) 6 (ck + 5) 3 (ck + 6) 3 (ck + 8) (by omega) (by omega) (by simp; omega)
        refine ⟨i', c1', o1', c2', o2', c3', o3', ck', ?_⟩
        rw [← hc, evL_loop_n]
        rw [← piece_end (by omega)]
        simp [f30l0e, rbH, rb0, hi, hw, hlt, Nat.le_of_lt hi, rowsOf, keysOfs, treesC, treesOf, treeOf, freezeAll, app, elsOf, over, hb1, hb2, List.replicate_succ']
      · obtain ⟨i', c1', o1', c2', o2', c3', o3', ck', hc⟩ := ih en (acc ++ [(s.drop i).take k]) (ck + 3) 6 (ck + 4) 3 (ck + 5) 3 (ck + 7) (by omega) (by omega) (by simp; omega)
        refine ⟨i', c1', o1', c2', o2', c3', o3', ck', ?_⟩
        rw [← hc, evL_loop_n]
        have hp := piece_in (s := s) hen
        have hle : en ≤ s.length := by omega
        have hie : i ≤ en := by omega
        generalize (s.drop i).take k = q at *
        simp [f30l0e, rbH, rb0, hi, hw, hlt, hle, hie, hp, rowsOf, keysOfs, treesC, treesOf, treeOf, freezeAll, app, elsOf, over, hb1, hb2, List.replicate_succ']
    · exact stop i acc c1 o1 c2 o2 c3 o3 ck (by omega)
end Go.Proofs.Ythkehbdljckbdaa.Pv
