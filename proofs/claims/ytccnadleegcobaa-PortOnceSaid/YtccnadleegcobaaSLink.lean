/- What link.Right, Push, Told tell. -/
import Derived.Test.YtccnadleegcobaaSClone
import Derived.Test.YtccnadleegcobaaPPort
set_option linter.unusedVariables false
set_option linter.unusedSimpArgs false
namespace Go.Proofs.Ytccnadleegcobaa.Pv
open Go Go.Pev

abbrev Fr := Int × List UInt8
def fcs (fs : List Fr) : List (List T) := fs.map fun f => [.i .i64 f.1, .s f.2]
def fl (fs : List Fr) : T := .l (fs.map fun f => [.i .i64 f.1, .s f.2])
def upF : Int → Int → List Fr → Bool
  | _, _, [] => true
  | last, next, f :: r => decide (last < f.1) && decide (f.1 < next) && upF f.1 next r
def lright (next : Int) (fs : List Fr) : Bool := decide (0 ≤ next ∧ next ≤ 2147483647 ∧ fs.length ≤ 64) && upF (-1) next fs
theorem upF_at {fs : List Fr} {i : Nat} (last next : Int) (h : i < fs.length) : upF last next (fs.drop i) = (decide (last < fs[i].1) && decide (fs[i].1 < next) && upF fs[i].1 next (fs.drop (i + 1))) := by
  rw [List.drop_eq_getElem_cons h]; rfl

theorem lright_loop (next : Int) (fs : List Fr) (hl : fs.length ≤ 1000000) : ∀ (k i : Nat) (last : Int) (ck : Nat), i + k = fs.length → ∃ c last', evL cfg (.loop f20l0) ⟨[(1, .pt ⟨1, 0, 0⟩ 2 0 0), (3, iv last), (7, .t (fl fs)), (8, iv fs.length), (9, iv i)], [(⟨1, 0, 0⟩, .box 25 [iv next, .t (fl fs)])], ck⟩ =
    some (if upF last next (fs.drop i) then (.exit 0, ⟨[(1, .pt ⟨1, 0, 0⟩ 2 0 0), (3, iv last'), (7, .t (fl fs)), (8, iv fs.length), (9, iv fs.length), (10, bv false)], [(⟨1, 0, 0⟩, .box 25 [iv next, .t (fl fs)])], c⟩) else (.ret, ⟨[(2, bv false)], [], c⟩)) := by
  intro k
  induction k with
  | zero =>
    intro i last ck h
    obtain rfl : i = fs.length := by omega
    refine ⟨ck + 1, last, ?_⟩
    rw [evL_loop]
    simp [f20l0e, upF]
  | succ k ih =>
    intro i last ck h
    have hi : i < fs.length := by omega
    have hw : IntKind.i64.wrap ((i : Int) + 1) = (i : Int) + 1 := wrap_id (by omega) (by omega)
    have hli : fs[i]? = some fs[i] := List.getElem?_eq_getElem hi
    rw [upF_at last next hi]
    by_cases h1 : fs[i].1 ≤ last
    · refine ⟨ck + 4, last, ?_⟩
      rw [evL_loop, decide_eq_false (by omega : ¬ last < fs[i].1)]
      simp [f20l0e, fl, hi, h1, over]
    · have d1 : decide (fs[i].1 ≤ last) = false := decide_eq_false h1
      by_cases h2 : next ≤ fs[i].1
      · refine ⟨ck + 4, last, ?_⟩
        rw [evL_loop, decide_eq_false (by omega : ¬ fs[i].1 < next), Bool.and_false, Bool.false_and]
        simp [f20l0e, fl, hi, d1, h2, over]
      · have d2 : decide (next ≤ fs[i].1) = false := decide_eq_false h2
        obtain ⟨c, last', hc⟩ := ih (i + 1) fs[i].1 (ck + 5) (by omega)
        refine ⟨c, last', ?_⟩
        rw [decide_eq_true (by omega : last < fs[i].1), decide_eq_true (by omega : fs[i].1 < next), Bool.true_and, Bool.true_and, ← hc, evL_loop_n]
        simp [f20l0e, fl, hi, hw, d1, d2, over]

theorem lright_ret (next : Int) (fs : List Fr) (hl : fs.length ≤ 1000000) : RetT cfg 20 [.ag [iv next, .t (fl fs)]] (bv (lright next fs)) := by
  obtain ⟨c, last', hc⟩ := lright_loop next fs hl fs.length 0 (-1) 3 (by omega)
  refine RetT.of ?_
  rw [runL_pf (fn := f20) rfl rfl]
  simp only [List.drop_zero, fl, iv, bv, Int.natCast_zero] at hc
  by_cases h1 : upF (-1) next fs = true
  · rw [if_pos h1] at hc
    by_cases h2 : 0 ≤ next
    · by_cases h3 : next ≤ 2147483647
      · by_cases h4 : fs.length ≤ 64
        · have d4 : decide ((fs.length : Int) ≤ 64) = true := decide_eq_true (by omega)
          simp [fl, hc, lright, h1, h2, h3, h4, d4]
        · have d4 : decide ((fs.length : Int) ≤ 64) = false := decide_eq_false (by omega)
          simp [fl, hc, lright, h1, h2, h3, h4, d4]
      · simp [fl, hc, lright, h1, h2, h3]
    · simp [fl, hc, lright, h1, h2]
  · rw [if_neg h1] at hc
    simp [fl, hc, lright, h1]

theorem clonef_ret (xs : List (List T)) (h : ∀ c ∈ xs, c.length = 2) (hl : xs.length ≤ 1000000) : RetO cfg 21 [.t (.l xs)] 50 2 xs := by
  refine ⟨⟨0, 0, 0⟩, [(⟨0, 0, 0⟩, .row 50 2 xs false)], 9, ?_, by simp [HP.get]⟩
  rw [runL_ex (p := cloneP 50 2 24) rfl]
  unfold cloneP
  have h1 : (xs.all fun c => c.length == 2) = true := List.all_eq_true.2 fun c hc => by simpa using h c hc
  have h2 : xs.length * 24 ≤ 140737488355328 := by omega
  simp only [h1, h2]
  simp
theorem fcs_two (fs : List Fr) : ∀ c ∈ (fs.map fun f => ([.i .i64 f.1, .s f.2] : List T)), c.length = 2 := by
  intro c hc
  obtain ⟨f, _, rfl⟩ := List.mem_map.1 hc
  rfl

def pushP (next : Int) (fs : List Fr) (text : List UInt8) : Int × List Fr × Int × Int :=
  if lright next fs = false ∨ next = 2147483647 then (next, fs, 0, 1) else if fs.length = 64 then (next, fs, 0, 8) else (next + 1, fs ++ [(next, text)], next, 0)
def pushV (r : Int × List Fr × Int × Int) : V := .tu [.ag [iv r.1, .t (fl r.2.1)], iv r.2.2.1, iv r.2.2.2]
set_option maxHeartbeats 4000000 in
theorem push_ret (next : Int) (fs : List Fr) (text : List UInt8) (hl : fs.length ≤ 100000) : RetT cfg 14 [.ag [iv next, .t (fl fs)], .t (.s text)] (pushV (pushP next fs text)) := by
  have hr := fun st k => callEv_tr (C := cfg) (lright_ret next fs (by omega)) rfl rfl rfl st k
  have hcl := fun st k => callEv_tro (C := cfg) (clonef_ret (fs.map fun f => [.i .i64 f.1, .s f.2]) (fcs_two fs) (by simp; omega)) rfl rfl rfl st k
  simp only [fl, iv, bv, List.length_map] at hr hcl
  unfold RetT
  rw [runL_pf (fn := f14) rfl rfl]
  unfold pushP
  by_cases h1 : lright next fs = true
  · by_cases h2 : next = 2147483647
    · rw [if_pos (.inr h2)]
      subst h2
      simp [fl, hr, h1, over]
      refine ⟨_, _, ⟨rfl, rfl⟩, ?_⟩
      simp [pushV, resOf, resOfs, resOf1, treesOf, treeOf, fl]
    · have d2 : (next == 2147483647) = false := by simpa using h2
      rw [if_neg (by rintro (q | q); · rw [h1] at q; cases q
                     · exact h2 q)]
      by_cases h3 : fs.length = 64
      · rw [if_pos h3]
        simp [fl, hr, h1, d2, h3, over]
        refine ⟨_, _, ⟨rfl, rfl⟩, ?_⟩
        simp [pushV, resOf, resOfs, resOf1, treesOf, treeOf, fl]
      · rw [if_neg h3]
        have d3 : ((fs.length : Int) == 64) = false := by simp; omega
        have hb : 0 ≤ next ∧ next ≤ 2147483647 := by
          simp only [lright, Bool.and_eq_true, decide_eq_true_eq] at h1; omega
        have hw : IntKind.i64.wrap (next + 1) = next + 1 := wrap_id (by omega) (by omega)
        have hby : (fs.length + 1) * 24 ≤ 140737488355328 := by omega
        simp [fl, hr, hcl, h1, d2, d3, hw, hby, over, rowsOf, keysOfs, treesC, treesOf, treeOf, freezeAll, keysOf1, app, elsOf, buildV]
        refine ⟨_, _, ⟨rfl, rfl⟩, ?_⟩
        simp [pushV, resOf, resOfs, resOf1, treesOf, treeOf, fl]
        try exact List.take_of_length_le (by simp)
  · rw [if_pos (.inl (by simpa using h1))]
    simp [fl, hr, h1, over]
    refine ⟨_, _, ⟨rfl, rfl⟩, ?_⟩
    simp [pushV, resOf, resOfs, resOf1, treesOf, treeOf, fl]
end Go.Proofs.Ytccnadleegcobaa.Pv
