/- What chunk.Cut, chunk.Join, the documents' Join and Same tell. -/
import Derived.Test.YthkehbdljckbdaaPCut
set_option linter.unusedVariables false
set_option linter.unusedSimpArgs false
namespace Go.Proofs.Ythkehbdljckbdaa.Pv
open Go Go.Pev

theorem cut_loop (k : Nat) (hk : 1 ≤ k ∧ k ≤ 64) : ∀ (f : Nat) (s : List UInt8) (acc : List (List UInt8)) (c o ck : Nat), s.length ≤ f → acc.length + f ≤ 1000000 → ∃ c' o' ck', evL cfg (.loop f50l0) ⟨[(0, .t (.s s)), (1, iv k), (6, .ow ⟨6, c, o⟩ 1 0 acc.length)], [(⟨6, c, o⟩, .row 9 1 (acc.map fun y => [.s y]) false)], ck⟩ =
    some (.exit 0, ⟨[(0, .t (.s [])), (1, iv k), (6, .ow ⟨6, c', o'⟩ 1 0 (acc ++ cut k s).length), (16, bv false)], [(⟨6, c', o'⟩, .row 9 1 ((acc ++ cut k s).map fun y => [.s y]) false)], ck'⟩) := by
  intro f
  induction f with
  | zero =>
    intro s acc c o ck hs _
    obtain rfl : s = [] := List.eq_nil_of_length_eq_zero (by omega)
    refine ⟨c, o, ck + 1, ?_⟩
    rw [evL_loop, cut_nil]
    simp [f50l0e]
  | succ f ih =>
    intro s acc c o ck hs hf
    by_cases hz : s = []
    · subst hz
      refine ⟨c, o, ck + 1, ?_⟩
      rw [evL_loop, cut_nil]
      simp [f50l0e]
    · have hp : 0 < s.length := List.length_pos_iff.2 hz
      obtain ⟨c', o', ck', hc⟩ := ih (s.drop k) (acc ++ [s.take k]) (ck + 2) 5 (ck + 4) (by rw [List.length_drop]; omega) (by rw [List.length_append, List.length_singleton]; omega)
      refine ⟨c', o', ck', ?_⟩
      have hap : acc ++ cut k s = (acc ++ [s.take k]) ++ cut k (s.drop k) := by rw [cut_cons hk.1 hz]; simp
      rw [hap, ← hc, evL_loop_n]
      have hby : (acc.length + 1) * 16 ≤ 140737488355328 := by omega
      have hd : decide (0 < s.length) = true := decide_eq_true hp
      by_cases hlt : s.length < k
      · have ht : s.take k = s := List.take_of_length_le (by omega)
        have hdr : s.drop k = [] := List.drop_of_length_le (by omega)
        rw [ht, hdr]
        have hli : (s.length : Int) < (k : Int) := by omega
        simp [f50l0e, hd, minmax, hli, hlt, rowsOf, keysOfs, treesC, treesOf, treeOf, freezeAll, app, elsOf, hby, hp]
      · have hli : ¬ (s.length : Int) < (k : Int) := by omega
        have hkl : k ≤ s.length := by omega
        simp [f50l0e, hd, minmax, hli, hlt, hkl, rowsOf, keysOfs, treesC, treesOf, treeOf, freezeAll, app, elsOf, hby, hp]

def cutR (s : List UInt8) (size : Int) : List (List UInt8) := if 1 ≤ size ∧ size ≤ 64 then cut size.toNat s else []
theorem cut_ret (s : List UInt8) (size : Int) (hl : s.length ≤ 100000) : RetT cfg 50 [.t (.s s), iv size] (.tu [.t (sl (cutR s size)), bv (decide (1 ≤ size ∧ size ≤ 64))]) := by
  unfold RetT
  rw [runL_pf (fn := f50) rfl rfl]
  by_cases h1 : size < 1
  · have e1 : cutR s size = [] := by unfold cutR; rw [if_neg (by omega)]
    have e2 : decide (1 ≤ size ∧ size ≤ 64) = false := decide_eq_false (by omega)
    rw [e1, e2]
    simp [h1]
    refine ⟨_, _, ⟨rfl, rfl⟩, ?_⟩
    simp [resOf, resOfs, resOf1, treesOf, treeOf, sl]
  · have d1 : decide (size < 1) = false := decide_eq_false h1
    by_cases h2 : 64 < size
    · have e1 : cutR s size = [] := by unfold cutR; rw [if_neg (by omega)]
      have e2 : decide (1 ≤ size ∧ size ≤ 64) = false := decide_eq_false (by omega)
      have d2 : decide (64 < size) = true := decide_eq_true h2
      rw [e1, e2]
      simp [d1, d2]
      refine ⟨_, _, ⟨rfl, rfl⟩, ?_⟩
      simp [resOf, resOfs, resOf1, treesOf, treeOf, sl]
    · have d2 : decide (64 < size) = false := decide_eq_false h2
      obtain ⟨k, rfl⟩ : ∃ k : Nat, size = k := ⟨size.toNat, by omega⟩
      have e1 : cutR s k = cut k s := by unfold cutR; rw [if_pos (by omega)]; rfl
      have e2 : decide (1 ≤ (k : Int) ∧ (k : Int) ≤ 64) = true := decide_eq_true (by omega)
      rw [e1, e2]
      obtain ⟨c', o', ck', hc⟩ := cut_loop k (by omega) s.length s [] 2 0 3 (Nat.le_refl _) (by simp; omega)
      simp only [iv, bv, List.nil_append, List.length_nil, List.map_nil] at hc
      have d3 : decide (k < 1) = false := decide_eq_false (by omega)
      simp [d1, d2, hc]
      refine ⟨_, _, ⟨rfl, rfl⟩, ?_⟩
      simp [resOf, resOfs, resOf1, treesOf, treeOf, sl]
      try exact List.take_of_length_le (by simp)

/-- The texts, one behind the other. -/
theorem cjoin_ret (l : List (List UInt8)) (h1 : l.length ≤ 1000000) (h2 : l.flatten.length ≤ 1000000) : RetT cfg 56 [.t (sl l)] (.t (.s l.flatten)) := by
  have hj : RetT cfg 64 [.t (sl l), .t (.s [])] (.t (.s l.flatten)) := by
    refine RetT.of ⟨[], 1, ?_⟩
    rw [runL_ex (p := joinP) rfl]
    unfold joinP
    simp only [sl, strsOf_map]
    rw [if_pos (by rw [join_nil_eq]; omega), join_nil_eq]
  have hc := fun s k => callEv_tr (C := cfg) hj rfl rfl rfl s k
  simp only [sl] at hc
  refine RetT.of ?_
  rw [runL_pf (fn := f56) rfl rfl]
  simp [sl, hc]

theorem flat_drop {l : List (List UInt8)} {i : Nat} (h : i < l.length) : (l.take (i + 1)).flatten = (l.take i).flatten ++ l[i] := by
  rw [List.take_succ_eq_append_getElem h, List.flatten_append, List.flatten_cons, List.flatten_nil, List.append_nil]
theorem flat_le (l : List (List UInt8)) (i : Nat) : (l.take i).flatten.length ≤ l.flatten.length := by
  have h : l.flatten = (l.take i).flatten ++ (l.drop i).flatten := by rw [← List.flatten_append, List.take_append_drop]
  rw [h, List.length_append]; omega
theorem rjoin_loop (l : List (List UInt8)) (h1 : l.length ≤ 1000000) (h2 : l.flatten.length ≤ 1000000) : ∀ (k i ck : Nat), i + k = l.length → ∃ ck', evL cfg (.loop f38l0) ⟨[(0, .t (sl l)), (3, .t (.s (l.take i).flatten)), (4, iv i)], [], ck⟩ =
    some (.exit 0, ⟨[(0, .t (sl l)), (3, .t (.s l.flatten)), (4, iv l.length), (8, bv false)], [], ck'⟩) := by
  intro k
  induction k with
  | zero =>
    intro i ck h
    obtain rfl : i = l.length := by omega
    refine ⟨ck + 1, ?_⟩
    rw [evL_loop, List.take_length]
    simp [f38l0e, sl]
  | succ k ih =>
    intro i ck h
    have hi : i < l.length := by omega
    have hw : IntKind.i64.wrap ((i : Int) + 1) = (i : Int) + 1 := wrap_id (by omega) (by omega)
    obtain ⟨ck', hc⟩ := ih (i + 1) (ck + 3) (by omega)
    refine ⟨ck', ?_⟩
    have hb := flat_le l (i + 1)
    rw [← hc, evL_loop_n]
    rw [flat_drop hi] at hb ⊢
    have hli : l[i]? = some l[i] := List.getElem?_eq_getElem hi
    rw [List.length_append] at hb
    generalize (l.take i).flatten = p at *
    have hbig : ¬ (9223372036854775807 : Int) < (p.length : Int) + (l[i].length : Int) := by omega
    simp [f38l0e, sl, hi, hw, i64max, hbig]
theorem rjoin_ret (l : List (List UInt8)) (h1 : l.length ≤ 1000000) (h2 : l.flatten.length ≤ 1000000) : RetT cfg 38 [.t (sl l)] (.t (.s l.flatten)) := by
  obtain ⟨c, hc⟩ := rjoin_loop l h1 h2 l.length 0 3 (by omega)
  refine RetT.of ?_
  rw [runL_pf (fn := f38) rfl rfl]
  simp only [List.take_zero, List.flatten_nil, sl, iv, bv, Int.natCast_zero] at hc
  simp [sl, hc]

theorem same08_loop (a b : List (List UInt8)) (hl : a.length ≤ 1000000) (hab : a.length = b.length) : ∀ (k i ck : Nat), i + k = a.length → ∃ c, evL cfg (.loop f33l0) ⟨[(0, .t (sl a)), (1, .t (sl b)), (5, iv i)], [], ck⟩ =
    some (if a.drop i = b.drop i then (.exit 0, ⟨[(0, .t (sl a)), (1, .t (sl b)), (5, iv a.length), (14, bv false)], [], c⟩) else (.ret, ⟨[(4, bv false)], [], c⟩)) := by
  intro k
  induction k with
  | zero =>
    intro i ck h
    obtain rfl : i = a.length := by omega
    refine ⟨ck + 1, ?_⟩
    rw [evL_loop]
    simp [f33l0e, sl, hab]
  | succ k ih =>
    intro i ck h
    have hi : i < a.length := by omega
    have hib : i < b.length := by omega
    have hw : IntKind.i64.wrap ((i : Int) + 1) = (i : Int) + 1 := wrap_id (by omega) (by omega)
    have hd : (a.drop i = b.drop i) = (a[i] = b[i] ∧ a.drop (i + 1) = b.drop (i + 1)) := by
      rw [List.drop_eq_getElem_cons hi, List.drop_eq_getElem_cons hib]; simp only [List.cons.injEq]
    simp only [hd]
    by_cases hx : a[i] = b[i]
    · obtain ⟨c, hc⟩ := ih (i + 1) (ck + 3) (by omega)
      refine ⟨c, ?_⟩
      rw [evL_loop_n (s1 := ⟨[(0, .t (sl a)), (1, .t (sl b)), (5, iv ((i + 1 : Nat) : Int))], [], ck + 3⟩), hc]
      · simp [hx]
      · simp [f33l0e, sl, hi, hib, hx, hw]
    · refine ⟨ck + 3, ?_⟩
      rw [evL_loop]
      have hb : (a[i] == b[i]) = false := by simpa using hx
      simp [f33l0e, sl, hi, hib, hx, hb]

theorem same08_ret (a b : List (List UInt8)) (hl : a.length ≤ 1000000) : RetT cfg 33 [.t (sl a), .t (sl b)] (bv (decide (a = b))) := by
  refine RetT.of ?_
  rw [runL_pf (fn := f33) rfl rfl]
  by_cases hab : a.length = b.length
  · obtain ⟨c, hc⟩ := same08_loop a b hl hab a.length 0 3 (by omega)
    simp only [List.drop_zero, sl] at hc
    by_cases hx : a = b
    · subst hx
      simp at hc
      simp [sl, hc]
    · rw [if_neg hx] at hc
      simp [hab] at hc
      simp [sl, hab, hx, hc]
  · have h1 : ¬ a = b := fun e => hab (by rw [e])
    have hb : ((a.length : Int) != (b.length : Int)) = true := by simp; omega
    simp [sl, h1, hb]

/-! ### is a bool in a row? -/
theorem bindex_loop (l : List Bool) (x : Bool) (hl : l.length ≤ 1000000) : ∀ (k i ck : Nat), i + k = l.length → ∃ c j, 0 ≤ j ∧ evL cfg (.loop f63l0) ⟨[(0, .t (bl l)), (1, bv x), (7, iv l.length), (8, iv i)], [], ck⟩ =
    some (if (l.drop i).contains x then (.ret, ⟨[(4, iv j)], [], c⟩) else (.exit 0, ⟨[(0, .t (bl l)), (1, bv x), (7, iv l.length), (8, iv l.length), (9, bv false)], [], c⟩)) := by
  intro k
  induction k with
  | zero =>
    intro i ck h
    obtain rfl : i = l.length := by omega
    refine ⟨ck + 1, 0, Int.le_refl _, ?_⟩
    rw [evL_loop]
    simp [f63l0e, bl]
  | succ k ih =>
    intro i ck h
    have hi : i < l.length := by omega
    have hd : (l.drop i).contains x = (x == l[i] || (l.drop (i + 1)).contains x) := by rw [List.drop_eq_getElem_cons hi]; rfl
    rw [hd]
    by_cases hx : (x == l[i]) = true
    · refine ⟨ck + 4, i, by omega, ?_⟩
      rw [evL_loop, hx]
      simp [f63l0e, bl, hi, hx]
    · have hx : (x == l[i]) = false := by simpa using hx
      obtain ⟨c, j, hj, hc⟩ := ih (i + 1) (ck + 4) (by omega)
      refine ⟨c, j, hj, ?_⟩
      rw [hx, Bool.false_or, ← hc, evL_loop_n]
      have hw : IntKind.i64.wrap ((i : Int) + 1) = (i : Int) + 1 := wrap_id (by omega) (by omega)
      simp [f63l0e, bl, hi, hx, hw]
theorem bcontains_ret (l : List Bool) (x : Bool) (hl : l.length ≤ 1000000) : RetT cfg 55 [.t (bl l), bv x] (bv (l.contains x)) := by
  obtain ⟨c, j, hj, hl2⟩ := bindex_loop l x hl l.length 0 2 (by omega)
  rw [List.drop_zero] at hl2
  have hr : RetT cfg 63 [.t (bl l), bv x] (iv (if l.contains x then j else -1)) := by
    refine RetT.of ?_
    rw [runL_pf (fn := f63) rfl rfl]
    simp only [bl, iv, bv, Int.natCast_zero] at hl2
    by_cases hx : l.contains x = true
    · rw [if_pos hx] at hl2
      rw [if_pos hx]
      simp [bl, hl2]
    · rw [if_neg hx] at hl2
      rw [if_neg hx]
      simp [bl, hl2]
  have hc := fun s k => callEv_tr (C := cfg) hr rfl rfl rfl s k
  refine RetT.of ?_
  rw [runL_pf (fn := f55) rfl rfl]
  simp only [bl, iv, bv] at hc
  by_cases hx : l.contains x = true
  · rw [if_pos hx] at hc
    rw [hx]
    simp [bl, hc, hj]
  · rw [if_neg hx] at hc
    have hx : l.contains x = false := by simpa using hx
    rw [hx]
    simp [bl, hc]
end Go.Proofs.Ythkehbdljckbdaa.Pv
