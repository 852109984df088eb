/- The document's link: what ref10.Told tells; law23.ref. -/
import Derived.Test.YtfclnkhhabiheaaSPort5
set_option linter.unusedVariables false
set_option linter.unusedSimpArgs false
namespace Go.Proofs.Ytfclnkhhabiheaa.Pv
open Go Go.Pev

/-- A row that is grown; none as long as nothing was appended. -/
def accH (s ty : Nat) (b : Bool) (acc : List Fr) (c o : Nat) (f : V → HP) : HP := if b then (⟨s, c, o⟩, .row ty 2 (fcs acc) false) :: f (.ow ⟨s, c, o⟩ 2 0 acc.length) else f .nl
theorem fcs_len (fs : List Fr) : (fcs fs).length = fs.length := by simp [fcs]

def rtB (next : Int) (fs : List Fr) (v : V) : HP := [(⟨5, 1, 3⟩, .box 43 [iv next, v]), (⟨4, 0, 1⟩, .box 43 [iv 0, .nl]), (⟨2, 0, 0⟩, .box 43 [iv next, .t (fl fs)])]
set_option maxHeartbeats 4000000 in
theorem rtold_loop (next seq : Int) (fs : List Fr) (hl : fs.length ≤ 1000000) : ∀ (k i : Nat) (acc : List Fr) (b : Bool) (c o ck : Nat), i + k = fs.length → acc.length ≤ i → (b = false → acc = []) →
    ∃ b' c' o' ck', evL cfg (.loop f17l0) ⟨[(1, iv seq), (2, .pt ⟨2, 0, 0⟩ 2 0 0), (4, .pt ⟨4, 0, 1⟩ 2 0 0), (5, .pt ⟨5, 1, 3⟩ 2 0 0), (6, iv i)], accH 33 81 b acc c o (rtB next fs), ck⟩ =
      some (.exit 0, ⟨[(1, iv seq), (2, .pt ⟨2, 0, 0⟩ 2 0 0), (4, .pt ⟨4, 0, 1⟩ 2 0 0), (5, .pt ⟨5, 1, 3⟩ 2 0 0), (6, iv fs.length), (14, bv false)], accH 33 81 b' (acc ++ (fs.drop i).filter (keepF seq)) c' o' (rtB next fs), ck'⟩) ∧ (b' = false → acc ++ (fs.drop i).filter (keepF seq) = []) := by
  intro k
  induction k with
  | zero =>
    intro i acc b c o ck h ha hb
    obtain rfl : i = fs.length := by omega
    refine ⟨b, c, o, ck + 1, ?_, ?_⟩
    · rw [evL_loop]
      cases b <;> simp [f17l0e, accH, rtB, fl]
    · intro h; simp [hb h]
  | succ k ih =>
    intro i acc b c o ck h ha hb
    have hi : i < fs.length := by omega
    have hw : IntKind.i64.wrap ((i : Int) + 1) = (i : Int) + 1 := wrap_id (by omega) (by omega)
    rw [List.drop_eq_getElem_cons hi]
    by_cases h1 : fs[i].1 = seq
    · have hk : keepF seq fs[i] = false := by simp [keepF, h1]
      obtain ⟨b', c', o', ck', h2, h3⟩ := ih (i + 1) acc b c o (ck + 3) (by omega) (by omega) hb
      refine ⟨b', c', o', ck', ?_, ?_⟩
      · rw [List.filter_cons_of_neg (by simp [hk]), ← h2, evL_loop_n]
        cases b <;> simp [f17l0e, accH, rtB, fl, hi, h1, hw, over]
      · rw [List.filter_cons_of_neg (by simp [hk])]; exact h3
    · have hk : keepF seq fs[i] = true := by simp [keepF, bne, h1]
      have d1 : (fs[i].1 != seq) = true := by simp [bne, h1]
      have hby : (acc.length + 1) * 24 ≤ 140737488355328 := by omega
      rw [List.filter_cons_of_pos hk, List.append_cons]
      have step : ∃ c1 o1, evL cfg f17l0 ⟨[(1, iv seq), (2, .pt ⟨2, 0, 0⟩ 2 0 0), (4, .pt ⟨4, 0, 1⟩ 2 0 0), (5, .pt ⟨5, 1, 3⟩ 2 0 0), (6, iv i)], accH 33 81 b acc c o (rtB next fs), ck⟩ = some (.normal, ⟨[(1, iv seq), (2, .pt ⟨2, 0, 0⟩ 2 0 0), (4, .pt ⟨4, 0, 1⟩ 2 0 0), (5, .pt ⟨5, 1, 3⟩ 2 0 0), (6, iv ((i + 1 : Nat) : Int))], accH 33 81 true (acc ++ [fs[i]]) c1 o1 (rtB next fs), ck + 4⟩) := by
        cases b with
        | false =>
          obtain rfl := hb rfl
          refine ⟨ck + 2, 8, ?_⟩
          simp [f17l0e, accH, rtB, fl, fcs, hi, d1, hw, over, rowsOf, keysOfs, treesC, treesOf, treeOf, freezeAll, freeze1, keysOf1, app, elsOf, buildV]
        | true =>
          refine ⟨ck + 2, 8, ?_⟩
          simp [f17l0e, accH, rtB, fl, fcs, hi, d1, hw, hby, over, rowsOf, keysOfs, treesC, treesOf, treeOf, freezeAll, freeze1, keysOf1, app, elsOf, buildV]
      obtain ⟨c1, o1, hs⟩ := step
      obtain ⟨b', c', o', ck', h2, h3⟩ := ih (i + 1) (acc ++ [fs[i]]) true c1 o1 (ck + 4) (by omega) (by simp; omega) (by simp)
      exact ⟨b', c', o', ck', by rw [evL_loop_n hs, h2], h3⟩

theorem fl_ow {s ty c o : Nat} {acc : List Fr} {r : HP} : treeOf ((⟨s, c, o⟩, .row ty 2 (fcs acc) false) :: r) (.ow ⟨s, c, o⟩ 2 0 acc.length) = some (fl acc) :=
  treeOf_ow (ty := ty) (els := fcs acc) (fz := false) (by simp [HP.get]) (fcs_len acc)

theorem rtold_ret (next seq : Int) (fs : List Fr) (hl : fs.length ≤ 100000) : RetT cfg 17 [.ag [iv next, .t (fl fs)], iv seq] (.ag [iv next, .t (fl (fs.filter (keepF seq)))]) := by
  obtain ⟨b, c, o, ck, h1, h2⟩ := rtold_loop next seq fs (by omega) fs.length 0 [] false 0 0 3 (by omega) (by simp) (by simp)
  simp only [accH, Bool.false_eq_true, if_false, List.drop_zero, List.nil_append, rtB, fl, iv, bv, Int.natCast_zero] at h1
  simp only [List.drop_zero, List.nil_append] at h2
  unfold RetT
  rw [runL_pf (fn := f17) rfl rfl]
  generalize hg : fs.filter (keepF seq) = g at *
  cases b with
  | false =>
    obtain rfl := h2 rfl
    simp only [Bool.false_eq_true, if_false] at h1
    simp [fl, h1, over, buildV]

    refine ⟨_, _, ⟨rfl, rfl⟩, ?_⟩
    simp [resOf, resOf1, treesOf, treeOf, fl]
  | true =>
    simp only [if_true] at h1
    simp [fl, h1, over, buildV]
    refine ⟨_, _, ⟨rfl, rfl⟩, ?_⟩
    have ht : ∀ r, treeOf ((⟨33, c, o⟩, .row 81 2 (fcs g) false) :: r) (.ow ⟨33, c, o⟩ 2 0 g.length) = some (fl g) := fun r => fl_ow
    simp [resOf, resOf1, treesOf, ht]
    simp [treeOf, fl]

def rfB (next low : Int) (seen : List Int) (v : V) : HP := [(⟨4, 1, 7⟩, .box 46 [iv next, v, iv low, .t (il seen)]), (⟨2, 0, 1⟩, .box 46 [iv 0, .nl, iv 0, .nl])]
def rfE (next low : Int) (seen : List Int) (v : V) : HP := [(⟨2, 0, 1⟩, .box 46 [iv next, v, iv low, .t (il seen)])]
set_option maxHeartbeats 4000000 in
theorem ref_loop (next low : Int) (seen : List Int) (fs : List Fr) (hl : fs.length ≤ 1000000) : ∀ (k i : Nat) (b : Bool) (c o ck : Nat), i + k = fs.length → (b = false → fs.take i = []) →
    if (fs.drop i).all (fun f => decide (f.2.length ≤ 100)) then ∃ b' c' o' ck', evL cfg (.loop f14l0) ⟨[(2, .pt ⟨2, 0, 1⟩ 4 0 0), (4, .pt ⟨4, 1, 7⟩ 4 0 0), (29, .t (fl fs)), (30, iv fs.length), (31, iv i)], accH 45 81 b (fs.take i) c o (rfB next low seen), ck⟩ =
      some (.exit 0, ⟨[(2, .pt ⟨2, 0, 1⟩ 4 0 0), (4, .pt ⟨4, 1, 7⟩ 4 0 0), (29, .t (fl fs)), (30, iv fs.length), (31, iv fs.length), (32, bv false)], accH 45 81 b' fs c' o' (rfB next low seen), ck'⟩) ∧ (b' = false → fs = [])
    else ∃ b' g c' o' ck', evL cfg (.loop f14l0) ⟨[(2, .pt ⟨2, 0, 1⟩ 4 0 0), (4, .pt ⟨4, 1, 7⟩ 4 0 0), (29, .t (fl fs)), (30, iv fs.length), (31, iv i)], accH 45 81 b (fs.take i) c o (rfB next low seen), ck⟩ =
      some (.ret, ⟨[(2, .pt ⟨2, 0, 1⟩ 4 0 0), (3, bv false)], accH 45 81 b' g c' o' (rfE next low seen), ck'⟩) ∧ (b' = false → g = []) := by
  intro k
  induction k with
  | zero =>
    intro i b c o ck h hb
    obtain rfl : i = fs.length := by omega
    rw [List.drop_length, if_pos (by rfl), List.take_length] at *
    refine ⟨b, c, o, ck + 1, ?_, hb⟩
    rw [evL_loop]
    cases b <;> simp [f14l0e, accH, rfB, fl]
  | succ k ih =>
    intro i b c o ck h hb
    have hi : i < fs.length := by omega
    have hw : IntKind.i64.wrap ((i : Int) + 1) = (i : Int) + 1 := wrap_id (by omega) (by omega)
    have hlen : (fs.take i).length = i := by rw [List.length_take]; omega
    rw [List.drop_eq_getElem_cons hi, List.all_cons]
    by_cases h1 : fs[i].2.length ≤ 100
    · have d1 : decide ((100 : Int) < (fs[i].2.length : Int)) = false := decide_eq_false (by omega)
      rw [decide_eq_true h1, Bool.true_and]
      have hby : (i + 1) * 24 ≤ 140737488355328 := by omega
      have step : ∃ c1 o1, evL cfg f14l0 ⟨[(2, .pt ⟨2, 0, 1⟩ 4 0 0), (4, .pt ⟨4, 1, 7⟩ 4 0 0), (29, .t (fl fs)), (30, iv fs.length), (31, iv i)], accH 45 81 b (fs.take i) c o (rfB next low seen), ck⟩ = some (.normal, ⟨[(2, .pt ⟨2, 0, 1⟩ 4 0 0), (4, .pt ⟨4, 1, 7⟩ 4 0 0), (29, .t (fl fs)), (30, iv fs.length), (31, iv ((i + 1 : Nat) : Int))], accH 45 81 true (fs.take (i + 1)) c1 o1 (rfB next low seen), ck + 5⟩) := by
        rw [List.take_succ_eq_append_getElem hi]
        cases b with
        | false =>
          rw [hb rfl]
          refine ⟨ck + 3, 5, ?_⟩
          simp [f14l0e, accH, rfB, fl, fcs, hi, d1, hw, over, rowsOf, keysOfs, treesC, treesOf, treeOf, freezeAll, freeze1, keysOf1, app, elsOf, buildV]
        | true =>
          refine ⟨ck + 3, 5, ?_⟩
          generalize fs.take i = acc at *
          subst hlen
          simp [f14l0e, accH, rfB, fl, fcs, hi, d1, hw, hby, over, rowsOf, keysOfs, treesC, treesOf, treeOf, freezeAll, freeze1, keysOf1, app, elsOf, buildV]
      obtain ⟨c1, o1, hs⟩ := step
      have := ih (i + 1) true c1 o1 (ck + 5) (by omega) (by simp)
      rw [evL_loop_n hs]
      exact this
    · have d1 : decide ((100 : Int) < (fs[i].2.length : Int)) = true := decide_eq_true (by omega)
      rw [decide_eq_false h1, Bool.false_and, if_neg (by simp)]
      refine ⟨b, fs.take i, c, o, ck + 4, ?_, hb⟩
      rw [evL_loop]
      cases b <;> simp [f14l0e, accH, rfB, rfE, fl, hi, d1, over]

def refOk (p : Prt) : Bool := decide (p.q.length ≤ 100) && decide (p.seen.length ≤ 100) && p.q.all (fun f => decide (f.2.length ≤ 100))
set_option maxHeartbeats 4000000 in
theorem ref_ret (p : Prt) : ∃ p', RetT cfg 14 [prV p] (.tu [prV p', bv (refOk p)]) ∧ (refOk p = true → p' = p) := by
  obtain ⟨next, fs, low, seen⟩ := p
  by_cases h1 : fs.length ≤ 100
  case neg =>
    have d1 : decide ((100 : Int) < (fs.length : Int)) = true := decide_eq_true (by omega)
    have hr : refOk ⟨next, fs, low, seen⟩ = false := by simp [refOk, h1]
    refine ⟨⟨next, [], low, seen⟩, ?_, fun h => by rw [hr] at h; cases h⟩
    rw [hr]
    unfold RetT prV
    rw [runL_pf (fn := f14) rfl rfl]
    simp [fl, il, d1, over, buildV]
    refine ⟨_, _, ⟨rfl, rfl⟩, ?_⟩
    simp [resOf, resOfs, resOf1, treesOf, treeOf, fl]
  have d1 : decide ((100 : Int) < (fs.length : Int)) = false := decide_eq_false (by omega)
  by_cases h2 : seen.length ≤ 100
  case neg =>
    have d2 : decide ((100 : Int) < (seen.length : Int)) = true := decide_eq_true (by omega)
    have hr : refOk ⟨next, fs, low, seen⟩ = false := by simp [refOk, h2]
    refine ⟨⟨next, [], low, seen⟩, ?_, fun h => by rw [hr] at h; cases h⟩
    rw [hr]
    unfold RetT prV
    rw [runL_pf (fn := f14) rfl rfl]
    simp [fl, il, d1, d2, over, buildV]
    refine ⟨_, _, ⟨rfl, rfl⟩, ?_⟩
    simp [resOf, resOfs, resOf1, treesOf, treeOf, fl]
  have d2 : decide ((100 : Int) < (seen.length : Int)) = false := decide_eq_false (by omega)
  have hL := ref_loop next low seen fs (by omega) fs.length 0 false 0 0 4 (by omega) (by simp)
  rw [List.drop_zero] at hL
  by_cases h3 : fs.all (fun f => decide (f.2.length ≤ 100)) = true
  · have hr : refOk ⟨next, fs, low, seen⟩ = true := by simp only [refOk, Bool.and_eq_true, decide_eq_true_eq]; exact ⟨⟨h1, h2⟩, h3⟩
    rw [if_pos h3] at hL
    obtain ⟨b, c, o, ck, hl1, hl2⟩ := hL
    refine ⟨⟨next, fs, low, seen⟩, ?_, fun _ => rfl⟩
    rw [hr]
    unfold RetT prV
    rw [runL_pf (fn := f14) rfl rfl]
    simp only [accH, Bool.false_eq_true, if_false, rfB, iv, bv, Int.natCast_zero] at hl1
    cases b with
    | false =>
      obtain rfl := hl2 rfl
      simp only [Bool.false_eq_true, if_false, fl, il, List.length_nil, List.map_nil, Int.natCast_zero] at hl1
      simp [fl, il, d1, d2, hl1, over, buildV]
      refine ⟨_, _, ⟨rfl, rfl⟩, ?_⟩
      simp [resOf, resOfs, resOf1, treesOf, treeOf, fl, il]
    | true =>
      simp only [if_true] at hl1
      have ht : ∀ r, treeOf ((⟨45, c, o⟩, .row 81 2 (fcs fs) false) :: r) (.ow ⟨45, c, o⟩ 2 0 fs.length) = some (fl fs) := fun r => fl_ow
      generalize hfc : fcs fs = FC at *
      simp only [fl, il] at hl1
      simp [fl, il, d1, d2, hl1, over, buildV]
      refine ⟨_, _, ⟨rfl, rfl⟩, ?_⟩
      simp [resOf, resOfs, resOf1, treesOf, ht]
      simp [treeOf, fl]
  · have hr : refOk ⟨next, fs, low, seen⟩ = false := by
      rw [Bool.eq_false_iff]
      intro h
      simp only [refOk, Bool.and_eq_true] at h
      exact h3 h.2
    rw [if_neg h3] at hL
    obtain ⟨b, g, c, o, ck, hl1, hl2⟩ := hL
    refine ⟨⟨next, g, low, seen⟩, ?_, fun h => by rw [hr] at h; cases h⟩
    rw [hr]
    unfold RetT prV
    rw [runL_pf (fn := f14) rfl rfl]
    simp only [accH, Bool.false_eq_true, if_false, rfB, rfE, iv, bv, Int.natCast_zero] at hl1
    cases b with
    | false =>
      obtain rfl := hl2 rfl
      simp only [Bool.false_eq_true, if_false, fl, il] at hl1
      simp [fl, il, d1, d2, hl1, over, buildV]
      refine ⟨_, _, ⟨rfl, rfl⟩, ?_⟩
      simp [resOf, resOfs, resOf1, treesOf, treeOf, fl, il]
    | true =>
      simp only [if_true] at hl1
      have ht : ∀ r, treeOf ((⟨45, c, o⟩, .row 81 2 (fcs g) false) :: r) (.ow ⟨45, c, o⟩ 2 0 g.length) = some (fl g) := fun r => fl_ow
      generalize hfc : fcs g = FC at *
      simp only [fl, il] at hl1
      simp [fl, il, d1, d2, hl1, over, buildV]
      refine ⟨_, _, ⟨rfl, rfl⟩, ?_⟩
      simp [resOf, resOfs, resOf1, treesOf, ht]
      simp [treeOf, fl]
end Go.Proofs.Ytfclnkhhabiheaa.Pv
