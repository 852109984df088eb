/- What move.Begin and the document's Begin of the layer 22 tell. -/
import Derived.Test.YthkehbdljckbdaaSCut
import Derived.Test.YthkehbdljckbdaaSOver
import Derived.Test.YthkehbdljckbdaaSHolds
import Derived.Test.YthkehbdljckbdaaSHas
import Derived.Test.YthkehbdljckbdaaSRRight
set_option linter.unusedVariables false
set_option linter.unusedSimpArgs false
namespace Go.Proofs.Ythkehbdljckbdaa.Pv
open Go Go.Pev

structure Mv where
  x : Int
  f : Int
  t : Int
  p : Int
  s : Int
  has : List Bool
  got : List (List UInt8)
def mvV (m : Mv) : V := .ag [iv m.x, iv m.f, iv m.t, iv m.p, iv m.s, .t (bl m.has), .t (sl m.got)]
def mv0 : Mv := ⟨0, 0, 0, 0, 0, [], []⟩
def beginP (e : Int) (h : List (List Int)) (x f t : Int) (s : List UInt8) (size : Int) : Mv × List (List UInt8) × Int :=
  if right e h = false ∨ holds h x f = false ∨ t < 1 ∨ 4 < t ∨ s = [] ∨ ¬ (1 ≤ size ∧ size ≤ 64) then (mv0, [], 1)
  else if holds h x t = true then (mv0, [], 5)
  else (⟨x, f, t, 1, crcI s, List.replicate (cut size.toNat s).length false, List.replicate (cut size.toNat s).length []⟩, cut size.toNat s, 0)
def begV (r : Mv × List (List UInt8) × Int) : V := .tu [mvV r.1, .t (sl r.2.1), iv r.2.2]

theorem rep_b (n : Nat) : (List.replicate n false).map (fun b => ([.b b] : List T)) = List.replicate n [.b false] := by simp
theorem rep_s (n : Nat) : (List.replicate n ([] : List UInt8)).map (fun b => ([.s b] : List T)) = List.replicate n [.s []] := by simp

set_option maxHeartbeats 4000000 in
theorem begin_ret (e : Int) (h : List (List Int)) (x f t : Int) (s : List UInt8) (size : Int) (hh : h.length ≤ 100000) (hr : ∀ r ∈ h, r.length ≤ 100000) (hs : s.length ≤ 100000) : RetT cfg 29 [.ag [iv e, .t (gl h)], iv x, iv f, iv t, .t (.s s), iv size] (begV (beginP e h x f t s size)) := by
  have c1 := fun st k => callEv_tr (C := cfg) (cut_ret s size hs) rfl rfl rfl st k
  have c2 := fun st k => callEv_tr (C := cfg) (pright_ret e h (by omega) (fun r hm => by have := hr r hm; omega)) rfl rfl rfl st k
  have c3 := fun st k => callEv_tr (C := cfg) (holds_ret e h x f (fun r hm => by have := hr r hm; omega)) rfl rfl rfl st k
  have c4 := fun st k => callEv_tr (C := cfg) (holds_ret e h x t (fun r hm => by have := hr r hm; omega)) rfl rfl rfl st k
  have c5 := fun hp => callQ_tr (C := cfg) (crc_ret s (by omega)) rfl hp
  simp only [gl, sl, iv, bv] at c1 c2 c3 c4 c5
  unfold RetT
  rw [runL_pf (fn := f29) rfl rfl]
  generalize hok : decide (1 ≤ size ∧ size ≤ 64) = ok at c1
  generalize hcc : cutR s size = cc at c1
  unfold beginP
  by_cases h1 : right e h = true
  · by_cases h2 : holds h x f = true
    · by_cases h3 : t < 1
      · rw [if_pos (by simp [h3])]
        have d3 : decide (t < 1) = true := decide_eq_true h3
        simp [gl, c1, c2, c3, h1, h2, d3, over, buildV]
        refine ⟨_, _, ⟨rfl, rfl⟩, ?_⟩
        simp [begV, mvV, mv0, resOf, resOfs, resOf1, treesOf, treeOf, bl, sl]
      · have d3 : decide (t < 1) = false := decide_eq_false h3
        by_cases h4 : 4 < t
        · rw [if_pos (by simp [h4])]
          have d4 : decide (4 < t) = true := decide_eq_true h4
          simp [gl, c1, c2, c3, h1, h2, d3, d4, over, buildV]
          refine ⟨_, _, ⟨rfl, rfl⟩, ?_⟩
          simp [begV, mvV, mv0, resOf, resOfs, resOf1, treesOf, treeOf, bl, sl]
        · have d4 : decide (4 < t) = false := decide_eq_false h4
          by_cases h5 : s = []
          · rw [if_pos (by simp [h5])]
            have d5 : (s == []) = true := by simp [h5]
            simp [gl, c1, c2, c3, h1, h2, d3, d4, d5, over, buildV]
            refine ⟨_, _, ⟨rfl, rfl⟩, ?_⟩
            simp [begV, mvV, mv0, resOf, resOfs, resOf1, treesOf, treeOf, bl, sl]
          · have d5 : (s == []) = false := by simpa using h5
            by_cases h6 : 1 ≤ size ∧ size ≤ 64
            · have d6 : ok = true := by rw [← hok]; exact decide_eq_true h6
              subst d6
              rw [if_neg (by simp [h1, h2, h3, h4, h5, h6])]
              by_cases h7 : holds h x t = true
              · rw [if_pos h7]
                simp [gl, c1, c2, c3, c4, h1, h2, h7, d3, d4, d5, over, buildV]
                refine ⟨_, _, ⟨rfl, rfl⟩, ?_⟩
                simp [begV, mvV, mv0, resOf, resOfs, resOf1, treesOf, treeOf, bl, sl]
              · rw [if_neg h7]
                have hcc' : cc = cut size.toNat s := by rw [← hcc]; unfold cutR; rw [if_pos h6]
                have hcl : cc.length ≤ 100000 := by rw [hcc']; have := cut_le (k := size.toNat) (by omega) s; omega
                rw [← hcc']
                have hb1 : (cc.length : Int) ≤ 140737488355328 := by omega
                have hb2 : (cc.length : Int) * 16 ≤ 140737488355328 := by omega
                have hb3 : cc.length ≤ 140737488355328 := by omega
                have hb4 : cc.length * 16 ≤ 140737488355328 := by omega
                simp [gl, c1, c2, c3, c4, c5, h1, h2, h7, d3, d4, d5, over, buildV, hb1, hb2, hb3, hb4]
                refine ⟨_, _, ⟨rfl, rfl⟩, ?_⟩
                simp [begV, mvV, resOf, resOfs, resOf1, treesOf, treeOf, bl, sl]
            · have d6 : ok = false := by rw [← hok]; exact decide_eq_false h6
              subst d6
              rw [if_pos (by simp [h6])]
              simp [gl, c1, c2, c3, h1, h2, d3, d4, d5, over, buildV]
              refine ⟨_, _, ⟨rfl, rfl⟩, ?_⟩
              simp [begV, mvV, mv0, resOf, resOfs, resOf1, treesOf, treeOf, bl, sl]
    · rw [if_pos (by simp [h2])]
      simp [gl, c1, c2, c3, h1, h2, over, buildV]
      refine ⟨_, _, ⟨rfl, rfl⟩, ?_⟩
      simp [begV, mvV, mv0, resOf, resOfs, resOf1, treesOf, treeOf, bl, sl]
  · rw [if_pos (by simp [h1])]
    simp [gl, c1, c2, h1, over, buildV]
    refine ⟨_, _, ⟨rfl, rfl⟩, ?_⟩
    simp [begV, mvV, mv0, resOf, resOfs, resOf1, treesOf, treeOf, bl, sl]
end Go.Proofs.Ythkehbdljckbdaa.Pv
