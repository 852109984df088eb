/- What place.Retire tells. -/
import Derived.Test.YthkehbdljckbdaaSDel
set_option linter.unusedVariables false
set_option linter.unusedSimpArgs false
namespace Go.Proofs.Ythkehbdljckbdaa.Pv
open Go Go.Pev

def pret (e : Int) (h : List (List Int)) (x n : Int) : Int × List (List Int) × Int := if may e h x n = false then (e, h, 1) else if holds h x n = false then (e, h, 4) else if (h.getD x.toNat []).length = 1 then (e, h, 7) else (e + 1, h.set x.toNat ((h.getD x.toNat []).filter (· != n)), 0)

theorem turned_ow (e : Int) (h : List (List Int)) (x : Nat) (l : List Int) (hh : h.length ≤ 1000000) (hx : x < h.length) (he : 0 ≤ e ∧ e < 2147483647) (s : St) (k1 k : Key) (ty m : Nat) (hm : m = l.length) (hg : s.hp.get k1 = some (.row ty 1 (cl l) false)) : callEv cfg (runL cfg) 45 [.ag [iv e, .t (gl h)], iv x, .ow k1 1 0 m] s k = some (.ag [iv (e + 1), .t (gl (h.set x l))], freezeAll s.hp [k1], s.ck) := by
  subst hm
  have hps : puresOf s.hp [.ag [iv e, .t (gl h)], iv x, .ow k1 1 0 l.length] = some [.ag [iv e, .t (gl h)], iv x, .t (il l)] := by
    have ht : List.take l.length (cl l) = cl l := List.take_of_length_le (by simp [cl])
    simp [puresOf, pureOf, treesOf, treeOf, hg, ht, gl, il, cl]
    simpa [cl] using ht
  exact callEv_k (C := cfg) (k := k) rfl rfl hps (turned_ret e h x l hh hx he) rfl

theorem pret_ret (e : Int) (h : List (List Int)) (x n : Int) (hh : h.length ≤ 1000000) (hr : ∀ r ∈ h, r.length ≤ 100000) : RetT cfg 19 [.ag [iv e, .t (gl h)], iv x, iv n] (.tu [.ag [iv (pret e h x n).1, .t (gl (pret e h x n).2.1)], iv (pret e h x n).2.2]) := by
  have hm := fun s k => callEv_tr (C := cfg) (may_ret e h x n hh (fun r hm => by have := hr r hm; omega)) rfl rfl rfl s k
  have hho := fun s k => callEv_tr (C := cfg) (holds_ret e h x n (fun r hm => by have := hr r hm; omega)) rfl rfl rfl s k
  simp only [gl, il, iv, bv] at hm hho
  unfold RetT
  rw [runL_pf (fn := f19) rfl rfl]
  unfold pret
  by_cases h1 : may e h x n = false
  · rw [if_pos h1]
    simp [gl, il, hm, h1, over]
    refine ⟨_, _, ⟨rfl, rfl⟩, ?_⟩
    simp [resOf, resOfs, resOf1, treesOf, treeOf, gl, il]
  · rw [if_neg h1]
    have h1' : may e h x n = true := by simpa using h1
    by_cases h2 : holds h x n = false
    · rw [if_pos h2]
      simp [gl, il, hm, hho, h1', h2, over]
      refine ⟨_, _, ⟨rfl, rfl⟩, ?_⟩
      simp [resOf, resOfs, resOf1, treesOf, treeOf, gl, il]
    · rw [if_neg h2]
      have h2' : holds h x n = true := by simpa using h2
      have hp := h1'
      simp only [may, Bool.and_eq_true, decide_eq_true_eq] at hp
      obtain ⟨⟨⟨⟨⟨p1, p2⟩, p3⟩, p4⟩, p5⟩, p6⟩ := hp
      have p0 := (right_e p1).1
      obtain ⟨y, rfl⟩ : ∃ y : Nat, x = y := ⟨x.toNat, by omega⟩
      have hy : y < h.length := by omega
      have hry := hr _ (List.getElem_mem hy)
      have hgd : h.getD y [] = h[y] := by simp [List.getD_eq_getElem?_getD, List.getElem?_eq_getElem hy]
      simp only [Int.toNat_natCast, hgd]
      by_cases h3 : h[y].length = 1
      · rw [if_pos h3]
        simp [gl, il, hm, hho, h1', h2', over, hy, h3]
        refine ⟨_, _, ⟨rfl, rfl⟩, ?_⟩
        simp [resOf, resOfs, resOf1, treesOf, treeOf, gl, il]
      · rw [if_neg h3]
        have h3b : ((h[y].length : Int) == 1) = false := by simp; omega
        have hcl := fun hp k => callO_tr (C := cfg) (clone_ret (h[y].map fun n => [.i .i64 n]) (by simp) (by simpa using (by omega : h[y].length ≤ 1000000))) rfl rfl rfl hp k
        obtain ⟨c, hde⟩ := del_run h[y] n (by omega) ⟨38, 4, 7⟩ ⟨5, 0, 1⟩ 3 3 [(⟨6, 0, 2⟩, .box 24 [.t (.i .i64 0), .nl]), (⟨5, 0, 1⟩, .box 3 [iv n]), (⟨3, 0, 0⟩, .box 24 [iv e, .t (gl h)])] (by simp) (by simp) (by simp) (by simp) 5
        have hdE := fun (env : Env) (k : Key) => callEv_h (C := cfg) (s := ⟨env, _, 4⟩) rfl hde k
        have hT := fun (s : St) (k1 k : Key) (hg : s.hp.get k1 = some (.row 3 1 (cl (h[y].filter (· != n))) false)) => turned_ow e h y (h[y].filter (· != n)) hh hy ⟨p0, p6⟩ s k1 k _ _ rfl hg
        simp only [gl, il, iv, bv, cl, List.length_map] at hcl hdE hT
        simp [gl, il, hm, hho, h1', h2', hy, h3b, hcl, hdE, hT, freezeAll, freeze1, over, keptB, isBox, isRow]
        refine ⟨_, _, ⟨rfl, rfl⟩, ?_⟩
        simp [resOf, resOfs, resOf1, treesOf, treeOf, gl, il]
end Go.Proofs.Ythkehbdljckbdaa.Pv
