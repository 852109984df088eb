/- What the functions of the layers 2, 17 and 21 tell: Same, Note. -/
import Derived.Test.YtchjpboiebdabaaSpec1
set_option linter.unusedVariables false
set_option linter.unusedSimpArgs false
namespace Go.Proofs.Ytchjpboiebdabaa.Pv
open Go Go.Pev

theorem same_loop (a b : List Int) (hl : a.length ≤ 1000000) (hab : a.length = b.length) : ∀ (k i ck : Nat), i + k = a.length → ∃ c, evL cfg (.loop f19l0) ⟨[(0, .t (il a)), (1, .t (il b)), (5, iv i)], [], ck⟩ =
    some (if a.drop i = b.drop i then (.exit 0, ⟨[(0, .t (il a)), (1, .t (il b)), (5, iv a.length), (14, bv false)], [], c⟩) else (.ret, ⟨[(4, bv false)], [], c⟩)) := by
  intro k
  induction k with
  | zero =>
    intro i ck h
    obtain rfl : i = a.length := by omega
    refine ⟨ck + 1, ?_⟩
    have h1 : a.drop a.length = b.drop a.length := by rw [List.drop_length, hab, List.drop_length]
    rw [evL_loop, if_pos h1]
    simp [f19l0e]
  | succ k ih =>
    intro i ck h
    have hi : i < a.length := by omega
    have hi' : i < b.length := by omega
    have h1 : a.drop i = b.drop i ↔ a[i] = b[i] ∧ a.drop (i + 1) = b.drop (i + 1) := by
      rw [List.drop_eq_getElem_cons hi, List.drop_eq_getElem_cons hi', List.cons.injEq]
    by_cases hx : a[i] = b[i]
    · obtain ⟨c, hc⟩ := ih (i + 1) (ck + 3) (by omega)
      refine ⟨c, ?_⟩
      rw [evL_loop_n (s1 := ⟨[(0, .t (il a)), (1, .t (il b)), (5, iv ((i + 1 : Nat) : Int))], [], ck + 3⟩), hc]
      · simp only [h1, hx, true_and]
      · have hw : IntKind.i64.wrap ((i : Int) + 1) = (i : Int) + 1 := wrap_id (by omega) (by omega)
        simp [f19l0e, hi, hi', hx, hw]
    · refine ⟨ck + 3, ?_⟩
      have hb : (a[i] != b[i]) = true := by simp [hx]
      rw [evL_loop, if_neg (fun h => hx (h1.1 h).1)]
      simp [f19l0e, hi, hi', hb]

theorem same_ret (a b : List Int) (hl : a.length ≤ 1000000) : RetT cfg 19 [.t (il a), .t (il b)] (bv (decide (a = b))) := by
  refine RetT.of ?_
  rw [runL_pf (fn := f19) rfl rfl]
  by_cases hab : a.length = b.length
  · obtain ⟨c, hc⟩ := same_loop a b hl hab a.length 0 3 (by omega)
    simp only [List.drop_zero] at hc
    by_cases hx : a = b
    · subst hx
      simp at hc
      simp [hc]
    · rw [if_neg hx] at hc
      simp [hab] at hc
      simp [hab, hx, hc]
  · have h1 : ¬ a = b := fun e => hab (by rw [e])
    have hb : ((a.length : Int) != (b.length : Int)) = true := by simp; omega
    simp [hb, h1]

/-- The cells of a row of numbers. -/
def cl (m : List Int) : List (List T) := m.map fun n => [.i .i64 n]
def pad (m : List Int) (n : Nat) : List Int := m ++ List.replicate (n - m.length) 0
def bump (m : List Int) (x : Nat) : List Int := m.set x (IntKind.i64.wrap (m.getD x 0 + 1))
def note (l : List Int) (x : Int) : List Int := if x < 0 ∨ 8 ≤ x ∨ 2147483647 ≤ cnt l x then l else bump (pad l (x.toNat + 1)) x.toNat

theorem note_loop (x : Int) (h0 : 0 ≤ x) (h8 : x < 8) : ∀ (k : Nat) (m : List Int) (c o ck : Nat) (z : Env), (z = [] ∨ z = [(19, bv false)]) → m.length ≤ 1000000 → k = x.toNat + 1 - m.length → ∃ c' o' ck', evL cfg (.loop f17l0) ⟨(1, iv x) :: (5, .ow ⟨7, c, o⟩ 1 0 m.length) :: z, [(⟨7, c, o⟩, .row 3 1 (cl m) false)], ck⟩ =
    some (.exit 0, ⟨[(1, iv x), (5, .ow ⟨7, c', o'⟩ 1 0 (m ++ List.replicate k 0).length), (24, bv false)], [(⟨7, c', o'⟩, .row 3 1 (cl (m ++ List.replicate k 0)) false)], ck'⟩) := by
  intro k
  induction k with
  | zero =>
    intro m c o ck z hz hm hk
    have h1 : ¬ (m.length : Int) ≤ x := by omega
    refine ⟨c, o, ck + 1, ?_⟩
    rw [evL_loop]
    rcases hz with rfl | rfl <;> simp [f17l0e, h1]
  | succ k ih =>
    intro m c o ck z hz hm hk
    have h1 : (m.length : Int) ≤ x := by omega
    obtain ⟨c', o', ck', hc⟩ := ih (m ++ [0]) (ck + 1) 2 (ck + 2) [] (.inl rfl) (by simp; omega) (by simp; omega)
    refine ⟨c', o', ck', ?_⟩
    rw [evL_loop_n (s1 := ⟨[(1, iv x), (5, .ow ⟨7, ck + 1, 2⟩ 1 0 (m ++ [0]).length)], [(⟨7, ck + 1, 2⟩, .row 3 1 (cl (m ++ [0])) false)], ck + 2⟩), hc]
    · simp [List.replicate_succ]
    · have h2 : (m.length + 1) * 8 ≤ 140737488355328 := by omega
      rcases hz with rfl | rfl <;> simp [f17l0e, h1, rowsOf, treesC, treesOf, treeOf, keysOfs, freezeAll, app, elsOf, cl, h2]
end Go.Proofs.Ytchjpboiebdabaa.Pv
