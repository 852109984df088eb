/- Windows: what the document's Accept tells: just what the program's does. -/
import Derived.Test.YtfclnkhhabiheaaSWin3
set_option linter.unusedVariables false
set_option linter.unusedSimpArgs false
namespace Go.Proofs.Ytfclnkhhabiheaa.Pv
open Go Go.Pev

theorem ins_snoc (n x : Int) : ∀ a : List Int, ins n (a ++ [x]) = if a.any (fun y => decide (n < y)) then ins n a ++ [x] else if n < x then a ++ [n, x] else a ++ [x, n]
  | [] => by simp [ins]
  | y :: a => by
    have ih := ins_snoc n x a
    by_cases h : n < y
    · simp [ins, h]
    · simp only [List.cons_append, ins, h, if_false, ih, List.any_cons, decide_false, Bool.false_or]
      split
      · rfl
      · split <;> rfl
theorem ins_none (n : Int) : ∀ a : List Int, a.any (fun y => decide (n < y)) = false → ins n a = a ++ [n]
  | [], _ => rfl
  | y :: a, h => by
    simp only [List.any_cons, Bool.or_eq_false_iff, decide_eq_false_iff_not] at h
    simp [ins, h.1, ins_none n a h.2]

def anyAbove (n : Int) (a : List Int) : Bool := a.any fun y => decide (n < y)
def rowI (n : Int) (a : List Int) : List Int := if anyAbove n a then ins n a else a
theorem rowI_len (n : Int) (a : List Int) : (rowI n a).length ≤ a.length + 1 := by
  unfold rowI
  split
  · rw [ins_len]; omega
  · omega
theorem any_snoc (n x : Int) (a : List Int) : anyAbove n (a ++ [x]) = (anyAbove n a || decide (n < x)) := by simp [anyAbove]
/-- Ascending: behind one that is above, all are. -/
theorem any_next {n : Int} {l : List Int} (hp : l.Pairwise (· < ·)) {i : Nat} (hi : i < l.length) (h : anyAbove n (l.take i) = true) : n < l[i] := by
  simp only [anyAbove, List.any_eq_true, decide_eq_true_eq] at h
  obtain ⟨y, hy, h⟩ := h
  obtain ⟨j, hj, rfl⟩ := List.getElem_of_mem hy
  have hji : j < i := by simp at hj; omega
  have := List.pairwise_iff_getElem.1 hp j i (by omega) hi hji
  rw [List.getElem_take] at h
  omega

theorem rowI_snoc (n x : Int) (a : List Int) : rowI n (a ++ [x]) = if n < x ∧ anyAbove n a = false then rowI n a ++ [n] ++ [x] else rowI n a ++ [x] := by
  unfold rowI
  rw [any_snoc]
  have := ins_snoc n x a
  cases ha : anyAbove n a with
  | true =>
    unfold anyAbove at ha
    simp [this, ha]
  | false =>
    unfold anyAbove at ha
    by_cases hn : n < x
    · simp [this, ha, hn]
    · simp [hn]
theorem rowI_next {n : Int} {l : List Int} {i : Nat} (hi : i < l.length) :
    anyAbove n (l.take (i + 1)) = (anyAbove n (l.take i) || decide (n < l[i])) ∧
    rowI n (l.take (i + 1)) = if n < l[i] ∧ anyAbove n (l.take i) = false then rowI n (l.take i) ++ [n] ++ [l[i]] else rowI n (l.take i) ++ [l[i]] := by
  have ht : l.take (i + 1) = l.take i ++ [l[i]] := by rw [List.take_add_one, List.getElem?_eq_getElem hi]; rfl
  rw [ht]
  exact ⟨any_snoc n _ _, rowI_snoc n _ _⟩

set_option maxHeartbeats 4000000 in
theorem racc_loop (low n : Int) (l : List Int) (ty ty4 : Nat) (hp : l.Pairwise (· < ·)) (hl : l.length ≤ 1000) : ∀ (m i c o ck : Nat), i + m = l.length → ∃ c' o' ck' r6, evL cfg (.loop f18l0) ⟨[(1, iv n), (2, .pt ⟨2, 0, 0⟩ 2 0 0), (4, .pt ⟨4, 0, 1⟩ 2 0 0), (6, .ow ⟨6, c, o⟩ 1 0 (rowI n (l.take i)).length), (7, bv (anyAbove n (l.take i))), (8, iv i)], [(⟨6, c, o⟩, .row 3 1 (cl (rowI n (l.take i))) false), (⟨4, 0, 1⟩, .box ty4 [iv 0, .nl]), (⟨2, 0, 0⟩, .box ty [iv low, .t (il l)])], ck⟩ =
    some (if n ∈ l.drop i then (.ret, ⟨[(4, .pt ⟨4, 0, 1⟩ 2 0 0), (5, bv false)], [(⟨6, c', o'⟩, r6), (⟨4, 0, 1⟩, .box ty4 [iv low, .t (il l)])], ck'⟩)
      else (.exit 0, ⟨[(1, iv n), (2, .pt ⟨2, 0, 0⟩ 2 0 0), (4, .pt ⟨4, 0, 1⟩ 2 0 0), (6, .ow ⟨6, c', o'⟩ 1 0 (rowI n l).length), (7, bv (anyAbove n l)), (8, iv l.length), (28, bv false)], [(⟨6, c', o'⟩, .row 3 1 (cl (rowI n l)) false), (⟨4, 0, 1⟩, .box ty4 [iv 0, .nl]), (⟨2, 0, 0⟩, .box ty [iv low, .t (il l)])], ck'⟩)) := by
  intro m
  induction m with
  | zero =>
    intro i c o ck h
    obtain rfl : i = l.length := by omega
    refine ⟨c, o, ck + 1, .box 0 [], ?_⟩
    rw [evL_loop, List.take_length]
    simp [f18l0e]
  | succ m ih =>
    intro i c o ck h
    have hi : i < l.length := by omega
    have hw : IntKind.i64.wrap ((i : Int) + 1) = (i : Int) + 1 := wrap_id (by omega) (by omega)
    have hmem : n ∈ l.drop i ↔ n = l[i] ∨ n ∈ l.drop (i + 1) := by rw [List.drop_eq_getElem_cons hi, List.mem_cons]
    have hrl := rowI_len n (l.take i)
    rw [List.length_take] at hrl
    obtain ⟨ha, hr⟩ := rowI_next (n := n) hi
    by_cases he : l[i] = n
    · have heb : (l[i] == n) = true := by simpa using he
      refine ⟨c, o, ck + 3, .row 3 1 (cl (rowI n (l.take i))) false, ?_⟩
      rw [evL_loop, if_pos (hmem.2 (.inl he.symm))]
      simp [f18l0e, hi, heb, over]
    · have heb : (l[i] == n) = false := by simpa using he
      have hmem' : (n ∈ l.drop i) ↔ (n ∈ l.drop (i + 1)) := ⟨fun h => (hmem.1 h).resolve_left (fun e => he e.symm), fun h => hmem.2 (.inr h)⟩
      by_cases hc : n < l[i] ∧ anyAbove n (l.take i) = false
      · rw [if_pos hc] at hr
        obtain ⟨c', o', ck', r6, hcc⟩ := ih (i + 1) (ck + 5) 7 (ck + 7) (by omega)
        refine ⟨c', o', ck', r6, ?_⟩
        rw [ha, hr, hc.2, show decide (n < l[i]) = true by simpa using hc.1] at hcc
        simp only [hmem']
        rw [hc.2, ← hcc]
        generalize rowI n (l.take i) = F at hrl
        have hb : (F.length + 1) * 8 ≤ 140737488355328 := by omega
        have hb2 : (F.length + 1 + 1) * 8 ≤ 140737488355328 := by omega
        refine evL_loop_n ?_
        simp [f18l0e, hi, heb, hc.1, hw, hb, hb2, rowsOf, treesC, treesOf, treeOf, keysOfs, freezeAll, app, elsOf, cl, buildV]
      · rw [if_neg hc] at hr
        obtain ⟨c', o', ck', r6, hcc⟩ := ih (i + 1) (ck + 3) 7 (ck + 5) (by omega)
        refine ⟨c', o', ck', r6, ?_⟩
        have ha2 : anyAbove n (l.take (i + 1)) = anyAbove n (l.take i) := by
          rw [ha]
          cases hx : anyAbove n (l.take i) with
          | true => rfl
          | false =>
            have : ¬ n < l[i] := fun h => hc ⟨h, hx⟩
            simpa using this
        rw [ha2, hr] at hcc
        simp only [hmem']
        rw [← hcc]
        generalize hF : rowI n (l.take i) = F at hrl
        have hb : (F.length + 1) * 8 ≤ 140737488355328 := by omega
        refine evL_loop_n ?_
        cases hx : anyAbove n (l.take i) with
        | true =>
          have hn := any_next hp hi hx
          simp [f18l0e, hi, heb, hn, hw, hb, rowsOf, treesC, treesOf, treeOf, keysOfs, freezeAll, app, elsOf, cl, buildV]
        | false =>
          have hn : ¬ n < l[i] := fun h => hc ⟨h, hx⟩
          simp [f18l0e, hi, heb, hn, hw, hb, rowsOf, treesC, treesOf, treeOf, keysOfs, freezeAll, app, elsOf, cl, buildV]

theorem radv_loop (L : List Int) (kc ko ty4 : Nat) (hL : L.length ≤ 1000000) : ∀ (m off ck : Nat) (low : Int) (z : Env), (z = [] ∨ z = [(72, bv false)]) → off + m = L.length → 0 ≤ low → low + m ≤ 3000000000 → ∃ c off' low', adv low (L.drop off) = (low', L.drop off') ∧ off' ≤ L.length ∧ evL cfg (.loop f18l1) ⟨(4, .pt ⟨4, 0, 1⟩ 2 0 0) :: (6, .ow ⟨6, kc, ko⟩ 1 off m) :: (9, iv low) :: z, [(⟨6, kc, ko⟩, .row 3 1 (cl L) false), (⟨4, 0, 1⟩, .box ty4 [iv 0, .nl])], ck⟩ =
    some (.exit 2, ⟨[(4, .pt ⟨4, 0, 1⟩ 2 0 0), (6, .ow ⟨6, kc, ko⟩ 1 off' (L.length - off')), (9, iv low'), (88, bv false)], [(⟨6, kc, ko⟩, .row 3 1 (cl L) false), (⟨4, 0, 1⟩, .box ty4 [iv 0, .nl])], c⟩) := by
  intro m
  induction m with
  | zero =>
    intro off ck low z hz h h0 hb
    obtain rfl : off = L.length := by omega
    refine ⟨ck + 1, L.length, low, by simp [adv], Nat.le_refl _, ?_⟩
    rw [evL_loop]
    rcases hz with rfl | rfl <;> simp [f18l1e]
  | succ m ih =>
    intro off ck low z hz h h0 hb
    have ho : off < L.length := by omega
    have hm : (0 : Int) < (m : Int) + 1 := by omega
    have hm2 : (1 : Int) ≤ (m : Int) + 1 := by omega
    have hd : L.drop off = L[off] :: L.drop (off + 1) := List.drop_eq_getElem_cons ho
    by_cases he : L[off] = low
    · have heb : (L[off] == low) = true := by simpa using he
      have hw : IntKind.i64.wrap (low + 1) = low + 1 := wrap_id (by omega) (by omega)
      obtain ⟨c, off', low', h1, h2, h3⟩ := ih (off + 1) (ck + 3) (low + 1) [] (.inl rfl) (by omega) (by omega) (by omega)
      refine ⟨c, off', low', by rw [hd]; simp only [adv, he, if_true]; exact h1, h2, ?_⟩
      rw [evL_loop_n (s1 := ⟨[(4, .pt ⟨4, 0, 1⟩ 2 0 0), (6, .ow ⟨6, kc, ko⟩ 1 (off + 1) m), (9, iv (low + 1))], [(⟨6, kc, ko⟩, .row 3 1 (cl L) false), (⟨4, 0, 1⟩, .box ty4 [iv 0, .nl])], ck + 3⟩), h3]
      rcases hz with rfl | rfl <;> simp [f18l1e, hm, hm2, cl, ho, heb, hw]
    · have heb : (L[off] == low) = false := by simpa using he
      refine ⟨ck + 1, off, low, by rw [hd]; simp only [adv, he, if_false], by omega, ?_⟩
      rw [evL_loop, show L.length - off = m + 1 by omega]
      rcases hz with rfl | rfl <;> simp [f18l1e, hm, cl, ho, heb]

theorem RetT.of_winx {f : Nat} {args : List V} {low : Int} {L : List Int} {off : Nat} {b : Bool} (ho : off ≤ L.length) (h : ∃ k ty h c, runL cfg f args [] 0 = some (.tu [.ag [iv low, .ow k 1 off (L.length - off)], bv b], h, c) ∧ h.get k = some (.row ty 1 (cl L) false)) : RetT cfg f args (accV (low, L.drop off, b)) := by
  obtain ⟨k, ty, h, c, h1, h2⟩ := h
  refine ⟨_, h, c, h1, ?_⟩
  have h3 : treeOf h (.ow k 1 off (L.length - off)) = some (.l (cl (L.drop off))) := by
    have h5 : off + (L.length - off) ≤ L.length := by omega
    have h6 : ((cl L).drop off).take (L.length - off) = cl (L.drop off) := by
      rw [List.take_of_length_le (by simp [cl])]
      simp [cl, List.map_drop]
    have h7 : off + (L.length - off) ≤ (cl L).length := by simpa [cl] using h5
    simp [treeOf, h2, h7, h6]
  have h4 : treesOf h [iv low, .ow k 1 off (L.length - off)] = some [.i .i64 low, .l (cl (L.drop off))] := by
    simp only [treesOf, h3]; rfl
  simp only [iv] at h4
  simp [resOf, resOfs, resOf1, h4, accV, il, cl]

set_option maxHeartbeats 8000000 in
theorem raccept_ret (low : Int) (l : List Int) (n : Int) (hl : l.length ≤ 1000) : RetT cfg 18 [.ag [iv low, .t (il l)], iv n] (accV (acc low l n)) := by
  have hr := fun s k => callEv_tr (C := cfg) (rwright_ret low l (by omega)) rfl rfl rfl s k
  simp only [il, iv, bv] at hr
  by_cases h1 : wright low l = true
  · rw [h1] at hr
    by_cases h2 : n < low
    · have : acc low l n = (low, l, false) := by unfold acc; rw [if_neg (by omega)]
      rw [this]
      refine RetT.of_win0 ?_
      rw [runL_pf (fn := f18) rfl rfl]
      simp [hr, h2, over]
    · by_cases h3 : 2147483647 < n
      · have : acc low l n = (low, l, false) := by unfold acc; rw [if_neg (by omega)]
        rw [this]
        refine RetT.of_win0 ?_
        rw [runL_pf (fn := f18) rfl rfl]
        simp [hr, h2, h3, over]
      · obtain ⟨u1, u2, u3, u4⟩ := acc_up h1
        obtain ⟨c', o', ck', r6, hlp⟩ := racc_loop low n l 44 44 u3 hl l.length 0 2 0 5 (by omega)
        rw [List.take_zero, List.drop_zero, show rowI n [] = [] from rfl, show anyAbove n [] = false from rfl] at hlp
        by_cases h4 : n ∈ l
        · rw [if_pos h4] at hlp
          have : acc low l n = (low, l, false) := by unfold acc; rw [if_neg (fun h => h.2.2.2 h4)]
          rw [this]
          refine RetT.of_win0 ?_
          rw [runL_pf (fn := f18) rfl rfl]
          simp only [il, iv, bv, cl, List.map_nil, List.length_nil, Int.natCast_zero] at hlp
          simp [hr, h2, h3, hlp, over]
        · rw [if_neg h4] at hlp
          have hl32 := acc_len (n := n) h1
          have hil := ins_len n l
          have hmem : ∀ x ∈ ins n l, 0 ≤ x ∧ x ≤ 2147483647 := fun x hx => by
            rcases mem_ins.1 hx with hx | rfl
            · have := u4 x hx; omega
            · omega
          have hb : (l.length + 1) * 8 ≤ 140737488355328 := by omega
          cases ha : anyAbove n l with
          | true =>
            have hL : rowI n l = ins n l := by unfold rowI; rw [ha]; rfl
            rw [ha] at hlp
            have hacc : acc low l n = ((adv (over32 low (ins n l)).1 (over32 low (ins n l)).2).1, (adv (over32 low (ins n l)).1 (over32 low (ins n l)).2).2, true) := by
              unfold acc
              rw [if_pos ⟨h1, by omega, by omega, h4⟩]
            rw [hacc]
            have hll := hil
            generalize ins n l = L at hil hmem hL hll
            rw [hL] at hlp
            by_cases h32 : 32 < L.length
            · have hL0 : 0 < L.length := by omega
              have h33 : L.length = 33 := by omega
              have hx0 := hmem _ (List.getElem_mem hL0)
              have hw : IntKind.i64.wrap (L[0] + 1) = L[0] + 1 := wrap_id (by omega) (by omega)
              have hov : over32 low L = (L[0] + 1, L.drop 1) := by
                unfold over32
                rw [if_pos h32]
                simp [hL0]
              have h33b : (((l.length : Nat) : Int) + 1 == 33) = true := by simp; omega
              rw [hov]
              obtain ⟨c2, off', low', a1, a2, a3⟩ := radv_loop L c' o' 44 (by omega) (L.length - 1) 1 (ck' + 5) (L[0] + 1) [] (.inl rfl) (by omega) (by omega) (by omega)
              rw [a1]
              refine RetT.of_winx a2 ⟨⟨6, c', o'⟩, 3, [(⟨6, c', o'⟩, .row 3 1 (cl L) false), (⟨4, 0, 1⟩, .box 44 [iv low', .ow ⟨6, c', o'⟩ 1 off' (L.length - off')])], c2 + 1, ?_, by simp [HP.get]⟩
              rw [runL_pf (fn := f18) rfl rfl]
              rw [hil] at hlp
              rw [h33] at a3
              have hl32' : l.length = 32 := by omega
              rw [hl32'] at hlp h33b
              simp only [il, iv, bv, cl, List.map_nil, List.length_nil, Int.natCast_zero] at hlp a3
              (try simp at hlp)
              simp [hr, h2, h3, hlp, a3, h33b, over, rowsOf, treesC, treesOf, treeOf, keysOfs, keysOf, freezeAll, app, elsOf, cl, buildV, hw, hL0, h33]
            · have hov : over32 low L = (low, L.drop 0) := by
                unfold over32
                rw [if_neg h32]
                simp
              have h33b : (((l.length : Nat) : Int) + 1 == 33) = false := by simp; omega
              rw [hov]
              obtain ⟨c2, off', low', a1, a2, a3⟩ := radv_loop L c' o' 44 (by omega) L.length 0 (ck' + 3) low [(72, bv false)] (.inr rfl) (by omega) (by omega) (by omega)
              rw [a1]
              refine RetT.of_winx a2 ⟨⟨6, c', o'⟩, 3, [(⟨6, c', o'⟩, .row 3 1 (cl L) false), (⟨4, 0, 1⟩, .box 44 [iv low', .ow ⟨6, c', o'⟩ 1 off' (L.length - off')])], c2 + 1, ?_, by simp [HP.get]⟩
              rw [runL_pf (fn := f18) rfl rfl]
              rw [hil] at hlp
              rw [hil] at a3
              simp only [il, iv, bv, cl, List.map_nil, List.length_nil, Int.natCast_zero] at hlp a3
              (try simp at hlp)
              simp [hr, h2, h3, hlp, a3, h33b, over, rowsOf, treesC, treesOf, treeOf, keysOfs, keysOf, freezeAll, app, elsOf, cl, buildV, hil]
          | false =>
            have hL : rowI n l = l := by unfold rowI; rw [ha]; rfl
            rw [ha, hL] at hlp
            have hls : ins n l = l ++ [n] := ins_none n l ha
            have hacc : acc low l n = ((adv (over32 low (ins n l)).1 (over32 low (ins n l)).2).1, (adv (over32 low (ins n l)).1 (over32 low (ins n l)).2).2, true) := by
              unfold acc
              rw [if_pos ⟨h1, by omega, by omega, h4⟩]
            rw [hacc]
            obtain ⟨L, hLL⟩ : ∃ L, L = ins n l := ⟨_, rfl⟩
            have hcl : cl L = cl l ++ [[.i .i64 n]] := by rw [hLL, hls]; simp [cl]
            rw [← hLL] at hil hmem ⊢
            clear hLL hls hacc
            have hls := hcl.symm
            simp only [cl] at hls
            by_cases h32 : 32 < L.length
            · have hL0 : 0 < L.length := by omega
              have h33 : L.length = 33 := by omega
              have hx0 := hmem _ (List.getElem_mem hL0)
              have hw : IntKind.i64.wrap (L[0] + 1) = L[0] + 1 := wrap_id (by omega) (by omega)
              have hov : over32 low L = (L[0] + 1, L.drop 1) := by
                unfold over32
                rw [if_pos h32]
                simp [hL0]
              have h33b : (((l.length : Nat) : Int) + 1 == 33) = true := by simp; omega
              rw [hov]
              obtain ⟨c2, off', low', a1, a2, a3⟩ := radv_loop L (ck' + 1) 3 44 (by omega) (L.length - 1) 1 (ck' + 6) (L[0] + 1) [] (.inl rfl) (by omega) (by omega) (by omega)
              rw [a1]
              refine RetT.of_winx a2 ⟨⟨6, (ck' + 1), 3⟩, 3, [(⟨6, (ck' + 1), 3⟩, .row 3 1 (cl L) false), (⟨4, 0, 1⟩, .box 44 [iv low', .ow ⟨6, (ck' + 1), 3⟩ 1 off' (L.length - off')])], c2 + 1, ?_, by simp [HP.get]⟩
              rw [runL_pf (fn := f18) rfl rfl]
              rw [h33] at a3
              have hl32' : l.length = 32 := by omega
              rw [hl32'] at hlp h33b
              simp only [il, iv, bv, cl, List.map_nil, List.length_nil, Int.natCast_zero] at hlp a3
              (try simp at hlp)
              simp [hr, h2, h3, hlp, a3, h33b, over, rowsOf, treesC, treesOf, treeOf, keysOfs, keysOf, freezeAll, app, elsOf, cl, buildV, hw, hL0, h33, hb, hls, hl32']
            · have hov : over32 low L = (low, L.drop 0) := by
                unfold over32
                rw [if_neg h32]
                simp
              have h33b : (((l.length : Nat) : Int) + 1 == 33) = false := by simp; omega
              rw [hov]
              obtain ⟨c2, off', low', a1, a2, a3⟩ := radv_loop L (ck' + 1) 3 44 (by omega) L.length 0 (ck' + 4) low [(72, bv false)] (.inr rfl) (by omega) (by omega) (by omega)
              rw [a1]
              refine RetT.of_winx a2 ⟨⟨6, (ck' + 1), 3⟩, 3, [(⟨6, (ck' + 1), 3⟩, .row 3 1 (cl L) false), (⟨4, 0, 1⟩, .box 44 [iv low', .ow ⟨6, (ck' + 1), 3⟩ 1 off' (L.length - off')])], c2 + 1, ?_, by simp [HP.get]⟩
              rw [runL_pf (fn := f18) rfl rfl]
              rw [hil] at a3
              simp only [il, iv, bv, cl, List.map_nil, List.length_nil, Int.natCast_zero] at hlp a3
              (try simp at hlp)
              simp [hr, h2, h3, hlp, a3, h33b, over, rowsOf, treesC, treesOf, treeOf, keysOfs, keysOf, freezeAll, app, elsOf, cl, buildV, hb, hls, hil]
  · have h1' : wright low l = false := by simpa using h1
    rw [h1'] at hr
    have : acc low l n = (low, l, false) := by unfold acc; rw [if_neg (by simp [h1'])]
    rw [this]
    refine RetT.of_win0 ?_
    rw [runL_pf (fn := f18) rfl rfl]
    simp [hr, over]
end Go.Proofs.Ytfclnkhhabiheaa.Pv
