/- What may, turned, Add, Retire tell (place). -/
import Derived.Test.YthkehbdljckbdaaSHolds
import Derived.Test.YthkehbdljckbdaaSRight
import Derived.Test.YthkehbdljckbdaaSClone
import Derived.Test.YthkehbdljckbdaaSSort
import Derived.Test.YthkehbdljckbdaaPRows
set_option linter.unusedVariables false
set_option linter.unusedSimpArgs false
namespace Go.Proofs.Ythkehbdljckbdaa.Pv
open Go Go.Pev
def may (e : Int) (h : List (List Int)) (x n : Int) : Bool := right e h && decide (0 ≤ x) && decide (x < h.length) && decide (1 ≤ n) && decide (n ≤ 4) && decide (e < 2147483647)

theorem may_ret (e : Int) (h : List (List Int)) (x n : Int) (hh : h.length ≤ 1000000) (hr : ∀ r ∈ h, r.length ≤ 1000000) : RetT cfg 42 [.ag [iv e, .t (gl h)], iv x, iv n] (bv (may e h x n)) := by
  refine RetT.of ?_
  rw [runL_pf (fn := f42) rfl rfl]
  have hc := fun s k => callEv_tr (C := cfg) (pright_ret e h hh hr) rfl rfl rfl s k
  simp only [gl, iv, bv] at hc
  by_cases h1 : right e h = true
  · by_cases h2 : 0 ≤ x
    · by_cases h3 : x < h.length
      · by_cases h4 : 1 ≤ n
        · by_cases h5 : n ≤ 4
          · simp [gl, may, hc, h1, h2, h3, h4, h5]
          · simp [gl, may, hc, h1, h2, h3, h4, h5]
        · simp [gl, may, hc, h1, h2, h3, h4]
      · simp [gl, may, hc, h1, h2, h3]
    · simp [gl, may, hc, h1, h2]
  · simp [gl, may, hc, h1]
theorem clone2_ret (xs : List (List T)) (h : ∀ c ∈ xs, c.length = 1) (hl : xs.length ≤ 1000000) : RetO cfg 59 [.t (.l xs)] 36 1 xs := by
  refine ⟨⟨0, 0, 0⟩, [(⟨0, 0, 0⟩, .row 36 1 xs false)], 9, ?_, by simp [HP.get]⟩
  rw [runL_ex (p := cloneP 36 1 24) rfl]
  unfold cloneP
  have h1 : (xs.all fun c => c.length == 1) = true := List.all_eq_true.2 fun c hc => by simpa using h c hc
  have h2 : xs.length * 24 ≤ 140737488355328 := by omega
  simp only [h1, h2]
  simp
theorem turned_ret (e : Int) (h : List (List Int)) (x : Nat) (l : List Int) (hh : h.length ≤ 1000000) (hx : x < h.length) (he : 0 ≤ e ∧ e < 2147483647) : RetT cfg 45 [.ag [iv e, .t (gl h)], iv x, .t (il l)] (.ag [iv (e + 1), .t (gl (h.set x l))]) := by
  have hc := fun hp k => callO_tr (C := cfg) (clone2_ret (h.map fun r => [il r]) (by simp) (by simpa using hh)) rfl rfl rfl hp k
  have hw : IntKind.i64.wrap (e + 1) = e + 1 := wrap_id (by omega) (by omega)
  simp only [il, iv] at hc
  have hxI : (x : Int) < h.length := by omega
  unfold RetT
  rw [runL_pf (fn := f45) rfl rfl]
  simp [gl, il, hc, hw, hx, hxI, over, buildV, treesC, treesOf, treeOf, keysOf, freezeAll]
  refine ⟨_, _, ⟨rfl, rfl⟩, ?_⟩
  simp [resOf, resOf1, treesOf, treeOf, gl, il, List.map_set, List.take_of_length_le]

def padd (e : Int) (h : List (List Int)) (x n : Int) : Int × List (List Int) × Int := if may e h x n = false then (e, h, 1) else if holds h x n = true then (e, h, 5) else (e + 1, h.set x.toNat (srt (h.getD x.toNat [] ++ [n])), 0)

theorem padd_ret (e : Int) (h : List (List Int)) (x n : Int) (hh : h.length ≤ 1000000) (hr : ∀ r ∈ h, r.length ≤ 100000) : RetT cfg 18 [.ag [iv e, .t (gl h)], iv x, iv n] (.tu [.ag [iv (padd e h x n).1, .t (gl (padd e h x n).2.1)], iv (padd e h x n).2.2]) := by
  have hm := fun s k => callEv_tr (C := cfg) (may_ret e h x n hh (fun r hm => by have := hr r hm; omega)) rfl rfl rfl s k
  have hho := fun s k => callEv_tr (C := cfg) (holds_ret e h x n (fun r hm => by have := hr r hm; omega)) rfl rfl rfl s k
  simp only [gl, il, iv, bv] at hm hho
  unfold RetT
  rw [runL_pf (fn := f18) rfl rfl]
  unfold padd
  by_cases h1 : may e h x n = false
  · rw [if_pos h1]
    simp [gl, il, hm, h1, over]
    refine ⟨_, _, ⟨rfl, rfl⟩, ?_⟩
    simp [resOf, resOfs, resOf1, treesOf, treeOf, gl, il]
  · rw [if_neg h1]
    have h1' : may e h x n = true := by simpa using h1
    by_cases h2 : holds h x n = true
    · rw [if_pos h2]
      simp [gl, il, hm, hho, h1', h2, over]
      refine ⟨_, _, ⟨rfl, rfl⟩, ?_⟩
      simp [resOf, resOfs, resOf1, treesOf, treeOf, gl, il]
    · rw [if_neg h2]
      have h2' : holds h x n = false := by simpa using h2
      have hp := h1'
      simp only [may, Bool.and_eq_true, decide_eq_true_eq] at hp
      obtain ⟨⟨⟨⟨⟨p1, p2⟩, p3⟩, p4⟩, p5⟩, p6⟩ := hp
      have p0 := (right_e p1).1
      obtain ⟨y, rfl⟩ : ∃ y : Nat, x = y := ⟨x.toNat, by omega⟩
      have hy : y < h.length := by omega
      have hry := hr _ (List.getElem_mem hy)
      have hgd : h.getD y [] = h[y] := by simp [List.getD_eq_getElem?_getD, List.getElem?_eq_getElem hy]
      have hcl := fun s k => callEv_tro (C := cfg) (clone_ret (h[y].map fun n => [.i .i64 n]) (by simp) (by simpa using (by omega : h[y].length ≤ 1000000))) rfl rfl rfl s k
      have hso := fun (k : Key) => sort_call (l := h[y] ++ [n]) (ty := 3) (k := k) (by simp) (by simp; omega)
      have hsl : (srt (h[y] ++ [n])).length = h[y].length + 1 := by simp [srt]
      have hT : ∀ (s : St) (k1 k : Key), s.hp.get k1 = some (.row 3 1 (cl (srt (h[y] ++ [n]))) false) → callEv cfg (runL cfg) 45 [.ag [iv e, .t (gl h)], iv y, .ow k1 1 0 (h[y].length + 1)] s k = some (.ag [iv (e + 1), .t (gl (h.set y (srt (h[y] ++ [n]))))], freezeAll s.hp [k1], s.ck) := fun s k1 k hg => by
        have hps : puresOf s.hp [.ag [iv e, .t (gl h)], iv y, .ow k1 1 0 (h[y].length + 1)] = some [.ag [iv e, .t (gl h)], iv y, .t (il (srt (h[y] ++ [n])))] := by
          have ht : List.take (h[y].length + 1) (cl (srt (h[y] ++ [n]))) = cl (srt (h[y] ++ [n])) := List.take_of_length_le (by simp [cl, hsl])
          simp [puresOf, pureOf, treesOf, treeOf, hg, ht, gl, il, cl, hsl]
          simpa [cl] using ht
        exact callEv_k (C := cfg) (k := k) rfl rfl hps (turned_ret e h y (srt (h[y] ++ [n])) hh hy ⟨p0, p6⟩) rfl
      simp only [gl, il, iv, bv, cl, List.length_append, List.length_cons, List.length_nil, List.map_append, List.map_cons, List.map_nil] at hcl hso hT
      have hb : ((h[y].length : Int) + 1) * 8 ≤ 140737488355328 := by omega
      have hbn : (h[y].length + 1) * 8 ≤ 140737488355328 := by omega
      simp [gl, il, hm, hho, h1', h2', hy, hcl, over, rowsOf, keysOfs, treesC, treesOf, treeOf, freezeAll, app, elsOf, hbn, hso, hT, hsl, freeze1]
      refine ⟨_, _, ⟨rfl, rfl⟩, ?_⟩
      simp [resOf, resOfs, resOf1, treesOf, treeOf, gl, il, hgd]
end Go.Proofs.Ythkehbdljckbdaa.Pv
