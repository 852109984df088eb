/- Windows: what Accept tells. -/
import Derived.Test.YtccnadleegcobaaSWin1
import Derived.Test.YtccnadleegcobaaSSort
set_option linter.unusedVariables false
set_option linter.unusedSimpArgs false
namespace Go.Proofs.Ytccnadleegcobaa.Pv
open Go Go.Pev

theorem adv_loop (L : List Int) (kc ko ty : Nat) (b4 : Ob) (sn p4 : V) (hL : L.length ≤ 1000000) : ∀ (m off ck : Nat) (low : Int) (z : Env), (z = [] ∨ z = [(37, bv false)]) → off + m = L.length → 0 ≤ low → low + m ≤ 3000000000 → ∃ c off' low', adv low (L.drop off) = (low', L.drop off') ∧ off' ≤ L.length ∧ evL cfg (.loop f17l1) ⟨(2, .pt ⟨2, 0, 0⟩ 2 0 0) :: (4, p4) :: (6, .ow ⟨29, kc, ko⟩ 1 off m) :: z, [(⟨29, kc, ko⟩, .row 3 1 (cl L) false), (⟨4, 0, 1⟩, b4), (⟨2, 0, 0⟩, .box ty [iv low, sn])], ck⟩ =
    some (.exit 2, ⟨[(2, .pt ⟨2, 0, 0⟩ 2 0 0), (4, p4), (6, .ow ⟨29, kc, ko⟩ 1 off' (L.length - off')), (55, bv false)], [(⟨29, kc, ko⟩, .row 3 1 (cl L) false), (⟨4, 0, 1⟩, b4), (⟨2, 0, 0⟩, .box ty [iv low', sn])], c⟩) := by
  intro m
  induction m with
  | zero =>
    intro off ck low z hz h h0 hb
    obtain rfl : off = L.length := by omega
    refine ⟨ck + 1, L.length, low, by simp [adv], Nat.le_refl _, ?_⟩
    rw [evL_loop]
    rcases hz with rfl | rfl <;> simp [f17l1e]
  | succ m ih =>
    intro off ck low z hz h h0 hb
    have ho : off < L.length := by omega
    have hm : (0 : Int) < (m : Int) + 1 := by omega
    have hm2 : (1 : Int) ≤ (m : Int) + 1 := by omega
    have hd : L.drop off = L[off] :: L.drop (off + 1) := List.drop_eq_getElem_cons ho
    by_cases he : L[off] = low
    · have heb : (L[off] == low) = true := by simpa using he
      have hw : IntKind.i64.wrap (low + 1) = low + 1 := wrap_id (by omega) (by omega)
      obtain ⟨c, off', low', h1, h2, h3⟩ := ih (off + 1) (ck + 2) (low + 1) [] (.inl rfl) (by omega) (by omega) (by omega)
      refine ⟨c, off', low', by rw [hd]; simp only [adv, he, if_true]; exact h1, h2, ?_⟩
      rw [evL_loop_n (s1 := ⟨[(2, .pt ⟨2, 0, 0⟩ 2 0 0), (4, p4), (6, .ow ⟨29, kc, ko⟩ 1 (off + 1) m)], [(⟨29, kc, ko⟩, .row 3 1 (cl L) false), (⟨4, 0, 1⟩, b4), (⟨2, 0, 0⟩, .box ty [iv (low + 1), sn])], ck + 2⟩), h3]
      rcases hz with rfl | rfl <;> simp [f17l1e, hm, hm2, cl, ho, heb, hw, treesC, treesOf, treeOf, over]
    · have heb : (L[off] == low) = false := by simpa using he
      refine ⟨ck + 1, off, low, by rw [hd]; simp only [adv, he, if_false], by omega, ?_⟩
      rw [evL_loop, show L.length - off = m + 1 by omega]
      rcases hz with rfl | rfl <;> simp [f17l1e, hm, cl, ho, heb]

def accV (r : Int × List Int × Bool) : V := .tu [.ag [iv r.1, .t (il r.2.1)], bv r.2.2]

theorem RetT.of_win {f : Nat} {args : List V} {low : Int} {l : List Int} {b : Bool} (h : ∃ k ty h c, runL cfg f args [] 0 = some (.tu [.ag [iv low, .ow k 1 0 l.length], bv b], h, c) ∧ h.get k = some (.row ty 1 (cl l) false)) : RetT cfg f args (accV (low, l, b)) := by
  obtain ⟨k, ty, h, c, h1, h2⟩ := h
  refine ⟨_, h, c, h1, ?_⟩
  have h3 : treeOf h (.ow k 1 0 l.length) = some (.l (cl l)) := treeOf_ow h2 (by simp [cl])
  have h4 : treesOf h [iv low, .ow k 1 0 l.length] = some [.i .i64 low, .l (cl l)] := by
    simp only [treesOf, h3]; rfl
  simp only [iv] at h4
  simp [resOf, resOfs, resOf1, h4, accV, il, cl]

theorem RetT.of_win0 {f : Nat} {args : List V} {low : Int} {l : List Int} {b : Bool} (h : ∃ h c, runL cfg f args [] 0 = some (.tu [.ag [iv low, .t (il l)], bv b], h, c)) : RetT cfg f args (accV (low, l, b)) := by
  obtain ⟨h, c, h1⟩ := h
  refine ⟨_, h, c, h1, ?_⟩
  simp [resOf, resOfs, resOf1, treesOf, treeOf, accV, iv, bv]

set_option maxHeartbeats 4000000 in
theorem accept_no (low : Int) (l : List Int) (n : Int) (hw : -9223372036854775808 ≤ low ∧ low ≤ 9223372036854775807) (hl : l.length ≤ 1000000) (hn : ∀ n ∈ l, n ≤ 9223372036854775807) (hc : ¬ (wright low l = true ∧ low ≤ n ∧ n ≤ 2147483647 ∧ ¬ n ∈ l)) : RetT cfg 17 [.ag [iv low, .t (il l)], iv n] (accV (low, l, false)) := by
  refine RetT.of_win0 ?_
  have hr := fun s k => callEv_tr (C := cfg) (wright_ret low l hw hl hn) rfl rfl rfl s k
  have hct := fun s k => callEv_tr (C := cfg) (contains_ret l n hl) rfl rfl rfl s k
  simp only [il, iv, bv] at hr hct
  rw [runL_pf (fn := f17) rfl rfl]
  by_cases h1 : wright low l = true
  · rw [h1] at hr
    by_cases h2 : 2147483647 < n
    · simp [hr, h2, over]
    · by_cases h3 : n < low
      · simp [hr, h2, h3, over]
      · have h4 : n ∈ l := by
          apply Classical.byContradiction
          intro h4
          exact hc ⟨h1, by omega, by omega, h4⟩
        have h4' : l.contains n = true := by simpa using h4
        rw [h4'] at hct
        simp [hr, h2, h3, hct, over]
  · have h1' : wright low l = false := by simpa using h1
    rw [h1'] at hr
    simp [hr, over]

theorem acc_len {low n : Int} {l : List Int} (h : wright low l = true) : l.length ≤ 32 := by
  simp only [wright, Bool.and_eq_true, decide_eq_true_eq] at h
  exact h.1.2.2
theorem acc_up {low : Int} {l : List Int} (h : wright low l = true) : 0 ≤ low ∧ low ≤ 2147483647 ∧ l.Pairwise (· < ·) ∧ ∀ x ∈ l, low ≤ x ∧ x ≤ 2147483647 := by
  simp only [wright, Bool.and_eq_true, decide_eq_true_eq] at h
  obtain ⟨h1, h2⟩ := upM_pair l (low - 1) h.2
  exact ⟨h.1.1, h.1.2.1, h1, fun x hx => by have := h2 x hx; omega⟩

set_option maxHeartbeats 8000000 in
theorem accept_yes (low : Int) (l : List Int) (n : Int) (h1 : wright low l = true) (h2 : low ≤ n) (h3 : n ≤ 2147483647) (h4 : ¬ n ∈ l) : RetT cfg 17 [.ag [iv low, .t (il l)], iv n] (accV (acc low l n)) := by
  obtain ⟨u1, u2, u3, u4⟩ := acc_up h1
  have hl := acc_len (n := n) h1
  have hr := fun s k => callEv_tr (C := cfg) (wright_ret low l (by omega) (by omega) (fun x hx => by have := u4 x hx; omega)) rfl rfl rfl s k
  have hct := fun s k => callEv_tr (C := cfg) (contains_ret l n (by omega)) rfl rfl rfl s k
  have h4' : l.contains n = false := by simpa using h4
  have hcl := fun s k => callEv_tro (C := cfg) (clone_ret (cl l) (cl_one l) (by simp [cl]; omega)) rfl rfl rfl s k
  have hso := fun (k : Key) => sort_call (l := l ++ [n]) (ty := 3) (k := k) (by simp) (by simp; omega)
  rw [srt_ins u3 h4] at hso
  rw [h1] at hr
  rw [h4'] at hct
  have hil := ins_len n l
  have hmem : ∀ x ∈ ins n l, 0 ≤ x ∧ x ≤ 2147483647 := fun x hx => by
    rcases mem_ins.1 hx with hx | rfl
    · have := u4 x hx; omega
    · omega
  obtain ⟨L, hL⟩ : ∃ L, L = ins n l := ⟨_, rfl⟩
  have hacc : acc low l n = ((adv (over32 low L).1 (over32 low L).2).1, (adv (over32 low L).1 (over32 low L).2).2, true) := by
    unfold acc
    rw [if_pos ⟨h1, h2, h3, h4⟩, hL]
  rw [hacc]
  rw [← hL] at hil hmem hso
  clear hL hacc
  have n1 : ¬ 2147483647 < n := by omega
  have n2 : ¬ n < low := by omega
  have hb : (l.length + 1) * 8 ≤ 140737488355328 := by omega
  have hfin : ∀ (off : Nat), off ≤ L.length → RetO cfg 26 [.t (.l ((cl L).drop off))] 3 1 (cl (L.drop off)) := fun off ho => by
    have : (cl L).drop off = cl (L.drop off) := by simp [cl, List.map_drop]
    rw [this]
    exact clone_ret (cl (L.drop off)) (cl_one _) (by simp [cl]; omega)
  by_cases h32 : 32 < L.length
  · have hL0 : 0 < L.length := by omega
    have h33 : L.length = 33 := by omega
    have hx0 := hmem _ (List.getElem_mem hL0)
    have hw : IntKind.i64.wrap (L[0] + 1) = L[0] + 1 := wrap_id (by omega) (by omega)
    have hov : over32 low L = (L[0] + 1, L.drop 1) := by
      unfold over32
      rw [if_pos h32]
      simp [hL0]
    rw [hov]
    obtain ⟨c, off', low', a1, a2, a3⟩ := adv_loop L 2 5 28 (.box 28 [iv 0, .nl]) (.t (il l)) (.pt ⟨4, 0, 1⟩ 2 0 0) (by omega) 32 1 10 (L[0] + 1) [(37, bv false)] (.inr rfl) (by omega) (by omega) (by omega)
    rw [a1]
    have hcf := fun (s : St) (k' : Key) => callEv_owo (C := cfg) (k := ⟨29, 2, 5⟩) (ty := 3) (sz := 1) (fz := false) (n := L.length - off') (els := cl L) (hfin off' a2) (by simp [cl]; omega) rfl rfl s k'
    have hl0 : ∀ ck, evL cfg (.loop f17l0) ⟨[(2, .pt ⟨2, 0, 0⟩ 2 0 0), (4, .pt ⟨4, 0, 1⟩ 2 0 0), (6, .ow ⟨29, 2, 5⟩ 1 0 L.length)], [(⟨29, 2, 5⟩, .row 3 1 (cl L) false), (⟨4, 0, 1⟩, .box 28 [iv 0, .nl]), (⟨2, 0, 0⟩, .box 28 [iv low, .t (il l)])], ck⟩ =
        some (.exit 0, ⟨[(2, .pt ⟨2, 0, 0⟩ 2 0 0), (4, .pt ⟨4, 0, 1⟩ 2 0 0), (6, .ow ⟨29, 2, 5⟩ 1 1 32), (37, bv false)], [(⟨29, 2, 5⟩, .row 3 1 (cl L) false), (⟨4, 0, 1⟩, .box 28 [iv 0, .nl]), (⟨2, 0, 0⟩, .box 28 [iv (L[0] + 1), .t (il l)])], ck + 3⟩) := by
      intro ck
      rw [evL_loop_n (s1 := ⟨[(2, .pt ⟨2, 0, 0⟩ 2 0 0), (4, .pt ⟨4, 0, 1⟩ 2 0 0), (6, .ow ⟨29, 2, 5⟩ 1 1 32)], [(⟨29, 2, 5⟩, .row 3 1 (cl L) false), (⟨4, 0, 1⟩, .box 28 [iv 0, .nl]), (⟨2, 0, 0⟩, .box 28 [iv (L[0] + 1), .t (il l)])], ck + 2⟩), evL_loop]
      · simp [f17l0e]
      · simp [f17l0e, h33, cl, hL0, hw, treesC, treesOf, treeOf, over]
    refine RetT.of_win ⟨⟨63, c, 1⟩, 3, [(⟨63, c, 1⟩, .row 3 1 (cl (L.drop off')) false), (⟨4, 0, 1⟩, .box 28 [iv low', .ow ⟨63, c, 1⟩ 1 0 (L.drop off').length])], c + 2, ?_, by simp [HP.get]⟩
    rw [runL_pf (fn := f17) rfl rfl]
    have hll : (l ++ [n]).length = l.length + 1 := by simp
    rw [hll] at hso
    rw [h33] at a3 hcf
    rw [hil] at hl0
    simp only [il, iv, bv, cl] at hr hct hcl hso hl0 a3 hcf
    simp at hcl hso
    simp [hr, hct, hcl, hso, n1, n2, hb, hl0, a3, hcf, h33, over, rowsOf, treesC, treesOf, treeOf, keysOfs, keysOf, freezeAll, freeze1, app, elsOf, cl]
  · have hov : over32 low L = (low, L.drop 0) := by
      unfold over32
      rw [if_neg h32]
      simp
    rw [hov]
    have h32' : ¬ (32 : Int) < (l.length : Int) + 1 := by omega
    obtain ⟨c, off', low', a1, a2, a3⟩ := adv_loop L 2 5 28 (.box 28 [iv 0, .nl]) (.t (il l)) (.pt ⟨4, 0, 1⟩ 2 0 0) (by omega) L.length 0 8 low [(37, bv false)] (.inr rfl) (by omega) (by omega) (by omega)
    rw [a1]
    have hcf := fun (s : St) (k' : Key) => callEv_owo (C := cfg) (k := ⟨29, 2, 5⟩) (ty := 3) (sz := 1) (fz := false) (n := L.length - off') (els := cl L) (hfin off' a2) (by simp [cl]; omega) rfl rfl s k'
    have hl0 : ∀ ck, evL cfg (.loop f17l0) ⟨[(2, .pt ⟨2, 0, 0⟩ 2 0 0), (4, .pt ⟨4, 0, 1⟩ 2 0 0), (6, .ow ⟨29, 2, 5⟩ 1 0 L.length)], [(⟨29, 2, 5⟩, .row 3 1 (cl L) false), (⟨4, 0, 1⟩, .box 28 [iv 0, .nl]), (⟨2, 0, 0⟩, .box 28 [iv low, .t (il l)])], ck⟩ =
        some (.exit 0, ⟨[(2, .pt ⟨2, 0, 0⟩ 2 0 0), (4, .pt ⟨4, 0, 1⟩ 2 0 0), (6, .ow ⟨29, 2, 5⟩ 1 0 L.length), (37, bv false)], [(⟨29, 2, 5⟩, .row 3 1 (cl L) false), (⟨4, 0, 1⟩, .box 28 [iv 0, .nl]), (⟨2, 0, 0⟩, .box 28 [iv low, .t (il l)])], ck + 1⟩) := by
      intro ck
      rw [evL_loop]
      simp [f17l0e, hil, h32']
    refine RetT.of_win ⟨⟨63, c, 1⟩, 3, [(⟨63, c, 1⟩, .row 3 1 (cl (L.drop off')) false), (⟨4, 0, 1⟩, .box 28 [iv low', .ow ⟨63, c, 1⟩ 1 0 (L.drop off').length])], c + 2, ?_, by simp [HP.get]⟩
    rw [runL_pf (fn := f17) rfl rfl]
    have hll : (l ++ [n]).length = l.length + 1 := by simp
    rw [hll] at hso
    rw [hil] at hl0 a3 hcf
    simp only [il, iv, bv, cl] at hr hct hcl hso hl0 a3 hcf
    simp at hcl hso
    simp [hr, hct, hcl, hso, n1, n2, hb, hl0, a3, hcf, over, rowsOf, treesC, treesOf, treeOf, keysOfs, keysOf, freezeAll, freeze1, app, elsOf, cl]
    done
end Go.Proofs.Ytccnadleegcobaa.Pv
