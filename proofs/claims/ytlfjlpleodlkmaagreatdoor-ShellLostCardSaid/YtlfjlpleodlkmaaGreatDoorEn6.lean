/- What this law leans on, of the framework and of the functions (by claimset.py). -/
import Derived.Test.YtlfjlpleodlkmaaGreatDoorEn5
import Derived.Test.YtlfjlpleodlkmaaGreatDoorEn4
import Derived.Test.YtlfjlpleodlkmaaGreatDoorEn3
set_option linter.unusedVariables false
set_option linter.unusedSimpArgs false
namespace Go.Proofs.YtlfjlpleodlkmaaGreatDoor.Pv
open Go Go.Pev
theorem filt_true {α : Type} (l : List α) : List.filter (fun _ => true) l = l := List.filter_eq_self.2 fun _ _ => rfl
theorem ret1_pr (x n : Int) (s : St) (k : Key) : callEv cfg (runL cfg) 101 [.t (.i .i64 x), .pr [.i .i64 n]] s k = some (.t (.b (x == n)), s.hp, s.ck + 4) := by
  refine callEv_h (C := cfg) (c' := s.ck + 3) rfl ?_ k
  rw [runL_pf (fn := f101) rfl rfl]
  simp [filt_true]
theorem ret1_pt (x n : Int) (q : Key) (bt : Nat) (s : St) (k : Key) (hq : s.hp.get q = some (.box bt [.t (.i .i64 n)])) : callEv cfg (runL cfg) 101 [.t (.i .i64 x), .pt q 1 0 0] s k = some (.t (.b (x == n)), s.hp, s.ck + 4) := by
  refine callEv_h (C := cfg) (c' := s.ck + 3) rfl ?_ k
  rw [runL_pf (fn := f101) rfl rfl]
  simp [hq, filt_true]
def idx (l : List Int) (n : Int) : Int := if l.contains n then l.idxOf n else -1
theorem ixf_loop (l : List Int) (n : Int) (hl : l.length ≤ 1000000) : ∀ (k i ck : Nat), i + k = l.length → (∀ j, j < i → l[j]? ≠ some n) → ∃ c, evL cfg (.loop f118l0) ⟨[(0, .t (il l)), (1, .fn 101 [.pr [.i .i64 n]]), (7, iv l.length), (8, iv i)], [], ck⟩ =
    some (if (l.drop i).contains n then (.ret, ⟨[(4, iv (idx l n))], [], c⟩) else (.exit 0, ⟨[(0, .t (il l)), (1, .fn 101 [.pr [.i .i64 n]]), (7, iv l.length), (8, iv l.length), (9, bv false)], [], c⟩)) := by
  intro k
  induction k with
  | zero =>
    intro i ck h _
    obtain rfl : i = l.length := by omega
    refine ⟨ck + 1, ?_⟩
    rw [evL_loop]
    simp [f118l0e]
  | succ k ih =>
    intro i ck h hb
    have hi : i < l.length := by omega
    by_cases hx : l[i] = n
    · have hid : l.idxOf n = i := by
        have h1 : l.idxOf n < l.length := List.idxOf_lt_length_of_mem (by rw [← hx]; exact List.getElem_mem hi)
        have h2 : l[l.idxOf n] = n := List.getElem_idxOf h1
        have h3 : ¬ l.idxOf n < i := fun h => hb _ h (by rw [List.getElem?_eq_getElem h1, h2])
        have h4 : ¬ i < l.idxOf n := fun h => by
          have := List.not_of_lt_findIdx (p := (· == n)) (xs := l) (i := i) (by simpa [List.idxOf] using h)
          simp [hx] at this
        omega
      have hin : l.contains n = true := by simp; rw [← hx]; exact List.getElem_mem hi
      refine ⟨ck + 7 + 1, ?_⟩
      rw [evL_loop, contains_at hi hx]
      simp only [idx, hin, hid]
      simp [f118l0e, hi, hx, ret1_pr, filt_true]
    · obtain ⟨c, hc⟩ := ih (i + 1) (ck + 8) (by omega) (fun j hj => by
        rcases Nat.lt_succ_iff_lt_or_eq.1 hj with h | rfl
        · exact hb j h
        · rw [List.getElem?_eq_getElem hi]; simpa using hx)
      refine ⟨c, ?_⟩
      rw [evL_loop_n (s1 := ⟨[(0, .t (il l)), (1, .fn 101 [.pr [.i .i64 n]]), (7, iv l.length), (8, iv ((i + 1 : Nat) : Int))], [], ck + 8⟩), hc, contains_not hi hx]
      have hb : (l[i] == n) = false := by simp [hx]
      have hw : IntKind.i64.wrap ((i : Int) + 1) = (i : Int) + 1 := wrap_id (by omega) (by omega)
      simp [f118l0e, hi, hb, hw, ret1_pr, filt_true]
theorem ixf_ret (l : List Int) (n : Int) (hl : l.length ≤ 1000000) : RetT cfg 118 [.t (il l), .fn 101 [.pr [.i .i64 n]]] (iv (idx l n)) := by
  obtain ⟨c, hc⟩ := ixf_loop l n hl l.length 0 2 (by omega) (by omega)
  refine RetT.of ?_
  rw [runL_pf (fn := f118) rfl rfl]
  simp at hc
  by_cases hx : n ∈ l
  · simp [hx] at hc; simp [hc]
  · have : idx l n = -1 := by simp [idx, hx]
    rw [this]
    simp [hx] at hc; simp [hc]
theorem ixf_call (l : List Int) (n : Int) (hl : l.length ≤ 1000000) (k q : Key) (ty bt : Nat) (s : St) (kk : Key) (hk : s.hp.get k = some (.row ty 1 (cl l) false)) (hq : s.hp.get q = some (.box bt [.t (.i .i64 n)])) : callEv cfg (runL cfg) 118 [.ow k 1 0 l.length, .fn 101 [.pt q 1 0 0]] s kk = some (.t (.i .i64 (idx l n)), s.hp, s.ck) := by
  have h1 : treeOf s.hp (.ow k 1 0 l.length) = some (il l) := treeOf_ow hk (by simp [cl])
  refine callEv_t (C := cfg) rfl rfl (ps := [.t (il l), .fn 101 [.pr [.i .i64 n]]]) ?_ (ixf_ret l n hl) (.inl rfl)
  simp only [puresOf, pureOf, h1]
  simp [capsOf, capOf, hq, treesOf, treeOf]
theorem del_loop (n : Int) (k q : Key) (ty bt : Nat) (rest : HP) (hkq : ¬ k = q) (hq : rest.get q = some (.box bt [.t (.i .i64 n)])) : ∀ (m j w : Nat) (r : List Int) (ck : Nat), j + m = r.length → w ≤ j → r.length ≤ 1000000 → ∃ c r', r'.length = r.length ∧ r'.take (w + ((r.drop j).filter (· != n)).length) = r.take w ++ (r.drop j).filter (· != n) ∧ evL cfg (.loop f100l0) ⟨[(0, .ow k 1 0 r.length), (1, .fn 101 [.pt q 1 0 0]), (5, iv w), (6, iv j)], (k, .row ty 1 (cl r) false) :: rest, ck⟩ =
    some (.exit 0, ⟨[(0, .ow k 1 0 r.length), (1, .fn 101 [.pt q 1 0 0]), (5, iv ((w + ((r.drop j).filter (· != n)).length : Nat) : Int)), (6, iv r.length), (19, bv false)], (k, .row ty 1 (cl r') false) :: rest, c⟩) := by
  intro m
  induction m with
  | zero =>
    intro j w r ck h hw hl
    obtain rfl : j = r.length := by omega
    refine ⟨ck + 1, r, rfl, by simp, ?_⟩
    rw [evL_loop]
    simp [f100l0e]
  | succ m ih =>
    intro j w r ck h hwj hl
    have hj : j < r.length := by omega
    have hw6 : IntKind.i64.wrap ((j : Int) + 1) = (j : Int) + 1 := wrap_id (by omega) (by omega)
    have hw5 : IntKind.i64.wrap ((w : Int) + 1) = (w : Int) + 1 := wrap_id (by omega) (by omega)
    have hd : r.drop j = r[j] :: r.drop (j + 1) := List.drop_eq_getElem_cons hj
    have hwl : w < r.length := by omega
    by_cases hx : r[j] = n
    · have hb : (r[j] == n) = true := by simp [hx]
      have hf : (r.drop j).filter (· != n) = (r.drop (j + 1)).filter (· != n) := by rw [hd]; simp [hx]
      obtain ⟨c, r', h1, h2, h3⟩ := ih (j + 1) w r (ck + 8) (by omega) (by omega) hl
      refine ⟨c, r', h1, by rw [hf]; exact h2, ?_⟩
      rw [hf, ← h3]
      rw [evL_loop_n (s1 := ⟨[(0, .ow k 1 0 r.length), (1, .fn 101 [.pt q 1 0 0]), (5, iv w), (6, iv ((j + 1 : Nat) : Int))], (k, .row ty 1 (cl r) false) :: rest, ck + 8⟩)]
      have hr1 := fun (s : St) (kk : Key) hg => ret1_pt r[j] n q bt s kk hg
      simp [f100l0e, hj, hb, hw6, cl, hr1, hkq, hq, filt_true]
    · have hb : (r[j] == n) = false := by simp [hx]
      have hf : (r.drop j).filter (· != n) = r[j] :: (r.drop (j + 1)).filter (· != n) := by rw [hd]; exact List.filter_cons_of_pos (by simpa using hx)
      obtain ⟨c, r', h1, h2, h3⟩ := ih (j + 1) (w + 1) (r.set w r[j]) (ck + 10) (by simp; omega) (by omega) (by simpa using hl)
      have hdr : (r.set w r[j]).drop (j + 1) = r.drop (j + 1) := by
        rw [List.drop_set]; simp; omega
      rw [hdr] at h2 h3
      simp only [List.length_set] at h1 h2 h3
      have htk : (r.set w r[j]).take (w + 1) = r.take w ++ [r[j]] := by
        rw [List.take_succ_eq_append_getElem (by simpa using hwl)]
        simp [List.take_set_of_le]
      refine ⟨c, r', h1, ?_, ?_⟩
      · rw [hf, List.length_cons, show w + (((r.drop (j + 1)).filter (· != n)).length + 1) = w + 1 + ((r.drop (j + 1)).filter (· != n)).length by omega, h2, htk]
        simp
      · rw [hf, List.length_cons, show w + (((r.drop (j + 1)).filter (· != n)).length + 1) = w + 1 + ((r.drop (j + 1)).filter (· != n)).length by omega, ← h3]
        rw [evL_loop_n (s1 := ⟨[(0, .ow k 1 0 r.length), (1, .fn 101 [.pt q 1 0 0]), (5, iv ((w + 1 : Nat) : Int)), (6, iv ((j + 1 : Nat) : Int))], (k, .row ty 1 (cl (r.set w r[j])) false) :: rest, ck + 10⟩)]
        have hr1 := fun (s : St) (kk : Key) hg => ret1_pt r[j] n q bt s kk hg
        simp [f100l0e, hj, hb, hw6, hw5, cl, hr1, hkq, hq, filt_true, hwl, treesC, treesOf, treeOf, keysOf, freezeAll, over, List.map_set]
theorem del_split (n : Int) : ∀ l : List Int, n ∈ l → l.take (l.idxOf n) ++ (l.drop (l.idxOf n + 1)).filter (· != n) = l.filter (· != n)
  | [], h => by cases h
  | a :: l, h => by
    by_cases e : a = n
    · subst e; simp
    · have h' : n ∈ l := by
        rcases List.mem_cons.1 h with h | h
        · exact absurd h.symm e
        · exact h
      have := del_split n l h'
      have hi : (a :: l).idxOf n = l.idxOf n + 1 := by
        rw [List.idxOf_cons]
        have : (a == n) = false := by simpa using e
        rw [this]; rfl
      rw [hi, List.take_succ_cons, List.drop_succ_cons, List.cons_append, this, List.filter_cons_of_pos (by simpa using e)]
theorem del_run (l : List Int) (n : Int) (hl : l.length ≤ 1000000) (k q : Key) (ty bt : Nat) (rest : HP) (hkq : ¬ k = q) (hq : rest.get q = some (.box bt [.t (.i .i64 n)])) (hk4 : ¬ k.s = 4) (hf : rest.filter (fun p => !([4] : List Nat).contains p.1.s) = rest) (ck : Nat) : ∃ c, runL cfg 100 [.ow k 1 0 l.length, .fn 101 [.pt q 1 0 0]] ((k, .row ty 1 (cl l) false) :: rest) ck = some (.ow k 1 0 (l.filter (· != n)).length, (k, .row ty 1 (cl (l.filter (· != n))) false) :: rest, c) := by
  have hix := fun (s : St) (kk : Key) h1 h2 => ixf_call l n hl k q ty bt s kk h1 h2
  have hf : List.filter (fun p : Key × Ob => !decide (p.fst.s = 4)) rest = rest := List.filter_eq_self.2 fun a ha => by
    have := List.filter_eq_self.1 hf a ha
    simpa using this
  by_cases hx : n ∈ l
  · have hidx : idx l n = l.idxOf n := by simp [idx, hx]
    have hil : l.idxOf n < l.length := List.idxOf_lt_length_of_mem hx
    have hw : IntKind.i64.wrap ((l.idxOf n : Int) + 1) = (l.idxOf n : Int) + 1 := wrap_id (by omega) (by omega)
    obtain ⟨c, r', h1, h2, h3⟩ := del_loop n k q ty bt rest hkq hq (l.length - (l.idxOf n + 1)) (l.idxOf n + 1) (l.idxOf n) l (ck + 4) (by omega) (by omega) hl
    rw [del_split n l hx] at h2
    have hlen : l.idxOf n + ((l.drop (l.idxOf n + 1)).filter (· != n)).length = (l.filter (· != n)).length := by
      rw [← del_split n l hx, List.length_append, List.length_take, Nat.min_eq_left (by omega)]
    rw [hlen] at h2 h3
    have hn1 : ((l.idxOf n : Int) == -1) = false := by simp
    have hle : (l.filter (· != n)).length ≤ l.length := List.length_filter_le _ _
    have hclr : (cl r').take (l.filter (· != n)).length = cl (l.filter (· != n)) := by
      rw [← h2]; simp [cl]
    have hlr : (cl r').length = l.length := by simp [cl, h1]
    refine ⟨c + 2, ?_⟩
    rw [runL_pf (fn := f100) rfl rfl]
    simp at h3
    simp [hk4, hf, hix, hkq, hq, hidx, filt_true, hn1, hw, h3, clr, hle, hlr, hclr]
  · have hidx : idx l n = -1 := by simp [idx, hx]
    have hfl : l.filter (· != n) = l := List.filter_eq_self.2 fun a ha => by
      have : a ≠ n := fun e => hx (e ▸ ha)
      simpa using this
    refine ⟨ck + 4, ?_⟩
    rw [runL_pf (fn := f100) rfl rfl, hfl]
    simp [hk4, hf, hix, hkq, hq, hidx, filt_true]
def pret (e : Int) (h : List (List Int)) (x n : Int) : Int × List (List Int) × Int := if may e h x n = false then (e, h, 1) else if holds h x n = false then (e, h, 4) else if (h.getD x.toNat []).length = 1 then (e, h, 7) else (e + 1, h.set x.toNat ((h.getD x.toNat []).filter (· != n)), 0)
theorem turned_ow (e : Int) (h : List (List Int)) (x : Nat) (l : List Int) (hh : h.length ≤ 1000000) (hx : x < h.length) (he : 0 ≤ e ∧ e < 2147483647) (s : St) (k1 k : Key) (ty m : Nat) (hm : m = l.length) (hg : s.hp.get k1 = some (.row ty 1 (cl l) false)) : callEv cfg (runL cfg) 99 [.ag [iv e, .t (gl h)], iv x, .ow k1 1 0 m] s k = some (.ag [iv (e + 1), .t (gl (h.set x l))], freezeAll s.hp [k1], s.ck) := by
  subst hm
  have hps : puresOf s.hp [.ag [iv e, .t (gl h)], iv x, .ow k1 1 0 l.length] = some [.ag [iv e, .t (gl h)], iv x, .t (il l)] := by
    have ht : List.take l.length (cl l) = cl l := List.take_of_length_le (by simp [cl])
    simp [puresOf, pureOf, treesOf, treeOf, hg, ht, gl, il, cl]
    simpa [cl] using ht
  exact callEv_k (C := cfg) (k := k) rfl rfl hps (turned_ret e h x l hh hx he) rfl
theorem pret_ret (e : Int) (h : List (List Int)) (x n : Int) (hh : h.length ≤ 1000000) (hr : ∀ r ∈ h, r.length ≤ 100000) : RetT cfg 56 [.ag [iv e, .t (gl h)], iv x, iv n] (.tu [.ag [iv (pret e h x n).1, .t (gl (pret e h x n).2.1)], iv (pret e h x n).2.2]) := by
  have hm := fun s k => callEv_tr (C := cfg) (may_ret e h x n hh (fun r hm => by have := hr r hm; omega)) rfl rfl rfl s k
  have hho := fun s k => callEv_tr (C := cfg) (holds_ret e h x n (fun r hm => by have := hr r hm; omega)) rfl rfl rfl s k
  simp only [gl, il, iv, bv] at hm hho
  unfold RetT
  rw [runL_pf (fn := f56) rfl rfl]
  unfold pret
  by_cases h1 : may e h x n = false
  · rw [if_pos h1]
    simp [gl, il, hm, h1, over]
    refine ⟨_, _, ⟨rfl, rfl⟩, ?_⟩
    simp [resOf, resOfs, resOf1, treesOf, treeOf, gl, il]
  · rw [if_neg h1]
    have h1' : may e h x n = true := by simpa using h1
    by_cases h2 : holds h x n = false
    · rw [if_pos h2]
      simp [gl, il, hm, hho, h1', h2, over]
      refine ⟨_, _, ⟨rfl, rfl⟩, ?_⟩
      simp [resOf, resOfs, resOf1, treesOf, treeOf, gl, il]
    · rw [if_neg h2]
      have h2' : holds h x n = true := by simpa using h2
      have hp := h1'
      simp only [may, Bool.and_eq_true, decide_eq_true_eq] at hp
      obtain ⟨⟨⟨⟨⟨p1, p2⟩, p3⟩, p4⟩, p5⟩, p6⟩ := hp
      have p0 := (right_e p1).1
      obtain ⟨y, rfl⟩ : ∃ y : Nat, x = y := ⟨x.toNat, by omega⟩
      have hy : y < h.length := by omega
      have hry := hr _ (List.getElem_mem hy)
      have hgd : h.getD y [] = h[y] := by simp [List.getD_eq_getElem?_getD, List.getElem?_eq_getElem hy]
      simp only [Int.toNat_natCast, hgd]
      by_cases h3 : h[y].length = 1
      · rw [if_pos h3]
        simp [gl, il, hm, hho, h1', h2', over, hy, h3]
        refine ⟨_, _, ⟨rfl, rfl⟩, ?_⟩
        simp [resOf, resOfs, resOf1, treesOf, treeOf, gl, il]
      · rw [if_neg h3]
        have h3b : ((h[y].length : Int) == 1) = false := by simp; omega
        have hcl := fun hp k => callO_tr (C := cfg) (clone_ret (h[y].map fun n => [.i .i64 n]) (by simp) (by simpa using (by omega : h[y].length ≤ 1000000))) rfl rfl rfl hp k
        obtain ⟨c, hde⟩ := del_run h[y] n (by omega) ⟨38, 4, 7⟩ ⟨5, 0, 1⟩ 3 3 [(⟨6, 0, 2⟩, .box 50 [.t (.i .i64 0), .nl]), (⟨5, 0, 1⟩, .box 3 [iv n]), (⟨3, 0, 0⟩, .box 50 [iv e, .t (gl h)])] (by simp) (by simp) (by simp) (by simp) 5
        have hdE := fun (env : Env) (k : Key) => callEv_h (C := cfg) (s := ⟨env, _, 4⟩) rfl hde k
        have hT := fun (s : St) (k1 k : Key) (hg : s.hp.get k1 = some (.row 3 1 (cl (h[y].filter (· != n))) false)) => turned_ow e h y (h[y].filter (· != n)) hh hy ⟨p0, p6⟩ s k1 k _ _ rfl hg
        simp only [gl, il, iv, bv, cl, List.length_map] at hcl hdE hT
        simp [gl, il, hm, hho, h1', h2', hy, h3b, hcl, hdE, hT, freezeAll, freeze1, over, keptB, isBox, isRow]
        refine ⟨_, _, ⟨rfl, rfl⟩, ?_⟩
        simp [resOf, resOfs, resOf1, treesOf, treeOf, gl, il]
section
variable {N : Nat}
theorem fls_put {h : HP} {ck cf ca cb : Nat} {F F' : Flt} {v v' : Vs} (hB : FlB h cf F v) (l1 : cf < ck) (l2 : ca < ck) (l3 : cb < ck) (hr : F.at_ < F.m.lays.length → rowsAre h F v ca cb) (hV : VsOk F' v') (e1 : F'.parts = F.parts) (e2 : F'.ans = F.ans) (e3 : F'.answd = F.answd) (e4 : F'.at_ = F.at_) (e5 : F'.m = F.m) (g1 : v'.vp = v.vp) (g2 : v'.va = v.va) (g3 : v'.vd = v.vd) : FlS (h.put ⟨34, cf, 5⟩ ⟨34, cf, 5⟩ (.box 88 (fcs F' v'))) ck cf ca cb F' := by
  refine ⟨v', ⟨?_, hV⟩, l1, l2, l3, fun hc => ?_⟩
  · rw [hp_get_put, if_pos rfl, hB.1]; rfl
  · rw [e4, e5] at hc
    obtain ⟨r1, r2, r3, r4, r5⟩ := hr hc
    exact ⟨by rw [g1, e1]; exact r1, by rw [g2, e1]; exact r2, by rw [g3, e1]; exact r3, by rw [get_put_ne (by simp), e2]; exact r4, by rw [get_put_ne (by simp), e3]; exact r5⟩
theorem ran_put {h : HP} {ck cf ca cb n : Nat} (ob : Ob) : Ran h ck cf ca cb (h.put ⟨34, cf, 5⟩ ⟨34, cf, 5⟩ ob) (ck + n) ca cb := Ran.to (by omega) fun q hq e => get_put_ne e
theorem take_s {l : List (List UInt8)} {i : Int} (h : ∀ s ∈ l, s.length ≤ 100000) : (∀ s ∈ (bagTake l i).2.1, s.length ≤ 100000) ∧ (bagTake l i).1.length ≤ 100000 ∧ (bagTake l i).2.1.length ≤ l.length := by
  unfold bagTake
  split
  · refine ⟨fun s hs => ?_, ?_, ?_⟩
    · rcases List.mem_append.1 hs with hs | hs
      · exact h s (List.mem_of_mem_take hs)
      · exact h s (List.mem_of_mem_drop hs)
    · rename_i hc
      have hj : i.toNat < l.length := by omega
      have : l.getD i.toNat [] = l[i.toNat] := by simp [List.getD_eq_getElem?_getD, hj]
      simp only [this]
      exact h _ (List.getElem_mem hj)
    · simp; omega
  · exact ⟨h, by simp, Nat.le_refl _⟩
def dropP (F : Flt) (i : Int) : Flt × Int := ({ F with bag := (bagTake F.bag i).2.1 }, if (bagTake F.bag i).2.2 then 0 else 4)
theorem bag_ok {F : Flt} {b : List (List UInt8)} (hO : Ok N F) (h1 : b.length ≤ 1000000) (h2 : ∀ s ∈ b, s.length ≤ 100000) : Ok N { F with bag := b } := ⟨⟨hO.f0.m, hO.f0.toks, hO.f0.ntok, hO.f0.ph, h1⟩, fun hc => ⟨(hO.f1 hc).na, (hO.f1 hc).nd, (hO.f1 hc).np, (hO.f1 hc).tok, (hO.f1 hc).toks, (hO.f1 hc).ntok, (hO.f1 hc).ph, h1⟩, hO.ans, hO.led, h2, hO.led5⟩
theorem drop_run {h : HP} {ck cf ca cb : Nat} {F : Flt} (i : Int) (hS : FlS h ck cf ca cb F) (hO : Ok N F) : ∃ h' ck', runL cfg 22 [.pt ⟨34, cf, 5⟩ 15 0 0, iv i] h ck = some (iv (dropP F i).2, h', ck') ∧ FlS h' ck' cf ca cb (dropP F i).1 ∧ Ok N (dropP F i).1 ∧ Ran h ck cf ca cb h' ck' ca cb := by
  obtain ⟨v, hB, l1, l2, l3, hr⟩ := hS
  have hg := hB.1
  obtain ⟨o0, o1, o2, o3, o4, o5, o6⟩ := hB.2
  have hT := fun s k => callEv_rd (C := cfg) (btake_ret F.bag i hO.f0.bag) rfl rfl (rdA_v o5 (rdA_t rdA_nil)) s k
  obtain ⟨t1, t2, t3⟩ := take_s (i := i) hO.bags
  unfold dropP
  generalize bagTake F.bag i = r at *
  obtain ⟨s, rest, ok⟩ := r
  have hV : VsOk { F with bag := rest } { v with vb := .t (sl rest) } := ⟨o0, o1, o2, o3, o4, rd_t _, o6⟩
  refine ⟨h.put ⟨34, cf, 5⟩ ⟨34, cf, 5⟩ (.box 88 (fcs { F with bag := rest } { v with vb := .t (sl rest) })), ck + 5, ?_, fls_le (fls_put hB l1 l2 l3 hr hV rfl rfl rfl rfl rfl rfl rfl rfl) (by omega), bag_ok hO (by have := hO.f0.bag; simp only at t3 ⊢; omega) t1, ran_put _⟩
  simp only [iv, bv] at hT
  simp only [fcs] at hg
  rw [runL_pf (fn := f22) rfl rfl]
  cases ok <;> simp [fcs, hg, hT, filt_t, over]
def twiceP (F : Flt) (i : Int) : Flt × Int := if 0 ≤ i ∧ i < F.bag.length then ({ F with bag := bagTwice F.bag i }, 0) else (F, 4)
theorem twice_s {l : List (List UInt8)} {i : Int} (h : ∀ s ∈ l, s.length ≤ 100000) (hl : l.length ≤ 1000000) : (∀ s ∈ bagTwice l i, s.length ≤ 100000) ∧ (bagTwice l i).length ≤ 1000000 := by
  unfold bagTwice
  split
  · rename_i hc
    have hj : i.toNat < l.length := by omega
    have e : l.getD i.toNat [] = l[i.toNat] := by simp [List.getD_eq_getElem?_getD, hj]
    unfold bagPut
    split
    · refine ⟨fun s hs => ?_, by simp; omega⟩
      rcases List.mem_append.1 hs with hs | hs
      · exact h s hs
      · rw [List.mem_singleton] at hs
        rw [hs, e]
        exact h _ (List.getElem_mem hj)
    · exact ⟨h, hl⟩
  · exact ⟨h, hl⟩
theorem twice_run {h : HP} {ck cf ca cb : Nat} {F : Flt} (i : Int) (hS : FlS h ck cf ca cb F) (hO : Ok N F) : ∃ h' ck', runL cfg 23 [.pt ⟨34, cf, 5⟩ 15 0 0, iv i] h ck = some (iv (twiceP F i).2, h', ck') ∧ FlS h' ck' cf ca cb (twiceP F i).1 ∧ Ok N (twiceP F i).1 ∧ Ran h ck cf ca cb h' ck' ca cb := by
  have hS0 := hS
  obtain ⟨v, hB, l1, l2, l3, hr⟩ := hS
  have hg := hB.1
  obtain ⟨o0, o1, o2, o3, o4, o5, o6⟩ := hB.2
  have hT := fun s k => callEv_rd (C := cfg) (btwice_ret F.bag i hO.f0.bag) rfl rfl (rdA_v o5 (rdA_t rdA_nil)) s k
  have hlen := rd_len o5
  rw [slc_len] at hlen
  rw [runL_pf (fn := f23) rfl rfl]
  unfold twiceP
  simp only [fcs] at hg
  by_cases c1 : i < 0
  · rw [if_neg (by omega)]
    refine ⟨h, ck + 3, ?_, fls_le hS0 (by omega), hO, Ran.to (by omega) fun _ _ _ => rfl⟩
    simp [hg, c1, filt_t]
  by_cases c2 : (F.bag.length : Int) ≤ i
  · rw [if_neg (by omega)]
    refine ⟨h, ck + 3, ?_, fls_le hS0 (by omega), hO, Ran.to (by omega) fun _ _ _ => rfl⟩
    simp [hg, c1, c2, hlen, filt_t]
  rw [if_pos (by omega)]
  obtain ⟨t1, t2⟩ := twice_s (i := i) hO.bags hO.f0.bag
  have hV : VsOk { F with bag := bagTwice F.bag i } { v with vb := .t (sl (bagTwice F.bag i)) } := ⟨o0, o1, o2, o3, o4, rd_t _, o6⟩
  refine ⟨h.put ⟨34, cf, 5⟩ ⟨34, cf, 5⟩ (.box 88 (fcs { F with bag := bagTwice F.bag i } { v with vb := .t (sl (bagTwice F.bag i)) })), ck + 4, ?_, fls_le (fls_put hB l1 l2 l3 hr hV rfl rfl rfl rfl rfl rfl rfl rfl) (by omega), bag_ok hO t2 t1, ran_put _⟩
  simp [fcs, hg, hT, c1, c2, hlen, filt_t, over]
def addP (F : Flt) (x n : Int) : Flt × Int := ({ F with pe := (padd F.pe F.ph x n).1, ph := (padd F.pe F.ph x n).2.1 }, (padd F.pe F.ph x n).2.2)
def retP (F : Flt) (x n : Int) : Flt × Int := ({ F with pe := (pret F.pe F.ph x n).1, ph := (pret F.pe F.ph x n).2.1 }, (pret F.pe F.ph x n).2.2)
theorem map_ok {F : Flt} {e : Int} {ph : List (List Int)} (hO : Ok N F) (h1 : ph.length ≤ 1000000 ∧ ∀ r ∈ ph, r.length ≤ 100000) : Ok N { F with pe := e, ph := ph } := ⟨⟨hO.f0.m, hO.f0.toks, hO.f0.ntok, h1, hO.f0.bag⟩, fun hc => ⟨(hO.f1 hc).na, (hO.f1 hc).nd, (hO.f1 hc).np, (hO.f1 hc).tok, (hO.f1 hc).toks, (hO.f1 hc).ntok, h1, hO.f0.bag⟩, hO.ans, hO.led, hO.bags, hO.led5⟩
theorem padd_few {e : Int} {ph : List (List Int)} (x n : Int) (h : ph.length ≤ 1000000 ∧ ∀ r ∈ ph, r.length ≤ 100000) : (padd e ph x n).2.1.length ≤ 1000000 ∧ ∀ r ∈ (padd e ph x n).2.1, r.length ≤ 100000 := by
  unfold padd
  split
  · exact h
  · split
    · exact h
    · rename_i h1 h2
      refine ⟨by simp; exact h.1, fun r hr => ?_⟩
      rcases List.mem_or_eq_of_mem_set hr with hr | rfl
      · exact h.2 r hr
      · have hm : may e ph x n = true := by simpa using h1
        simp only [may, right, Bool.and_eq_true, decide_eq_true_eq, List.all_eq_true] at hm
        have hxl : x.toNat < ph.length := by omega
        have hrow := (hm.1.1.1.1.1.2 _ (List.getElem_mem hxl)).1
        have hl := rowUp_len hrow
        have eg : ph.getD x.toNat [] = ph[x.toNat] := by simp [List.getD_eq_getElem?_getD, hxl]
        rw [eg]
        simp only [srt, List.length_mergeSort, List.length_append, List.length_cons, List.length_nil]
        omega
theorem pret_few {e : Int} {ph : List (List Int)} (x n : Int) (h : ph.length ≤ 1000000 ∧ ∀ r ∈ ph, r.length ≤ 100000) : (pret e ph x n).2.1.length ≤ 1000000 ∧ ∀ r ∈ (pret e ph x n).2.1, r.length ≤ 100000 := by
  unfold pret
  split
  · exact h
  · split
    · exact h
    · split
      · exact h
      · rename_i h1 h2 h3
        refine ⟨by simp; exact h.1, fun r hr => ?_⟩
        rcases List.mem_or_eq_of_mem_set hr with hr | rfl
        · exact h.2 r hr
        · have hm : may e ph x n = true := by simpa using h1
          simp only [may, right, Bool.and_eq_true, decide_eq_true_eq, List.all_eq_true] at hm
          have hxl : x.toNat < ph.length := by omega
          have eg : ph.getD x.toNat [] = ph[x.toNat] := by simp [List.getD_eq_getElem?_getD, hxl]
          rw [eg]
          have := List.length_filter_le (fun z => z != n) ph[x.toNat]
          have := h.2 _ (List.getElem_mem hxl)
          omega
theorem fadd_run {h : HP} {ck cf ca cb : Nat} {F : Flt} (x n : Int) (hS : FlS h ck cf ca cb F) (hO : Ok N F) : ∃ h' ck', runL cfg 24 [.pt ⟨34, cf, 5⟩ 15 0 0, iv x, iv n] h ck = some (iv (addP F x n).2, h', ck') ∧ FlS h' ck' cf ca cb (addP F x n).1 ∧ Ok N (addP F x n).1 ∧ Ran h ck cf ca cb h' ck' ca cb := by
  obtain ⟨v, hB, l1, l2, l3, hr⟩ := hS
  have hg := hB.1
  have hT := fun s k => callEv_tr (C := cfg) (padd_ret F.pe F.ph x n hO.f0.ph.1 hO.f0.ph.2) rfl rfl rfl s k
  have hfew := padd_few (e := F.pe) x n hO.f0.ph
  unfold addP
  generalize padd F.pe F.ph x n = r at *
  obtain ⟨e, ph, er⟩ := r
  have hX : FlS (h.put ⟨34, cf, 5⟩ ⟨34, cf, 5⟩ (.box 88 (fcs { F with pe := e, ph := ph } v))) ck cf ca cb { F with pe := e, ph := ph } := fls_put hB l1 l2 l3 hr hB.2 rfl rfl rfl rfl rfl rfl rfl rfl
  refine ⟨(⟨7, ck + 1, 10⟩, .box 50 [iv e, .t (gl ph)]) :: h.put ⟨34, cf, 5⟩ ⟨34, cf, 5⟩ (.box 88 (fcs { F with pe := e, ph := ph } v)), ck + 4, ?_, fls_le (fls_new hX (s := 7) (c := ck + 1) (o := 10) (by decide) (by decide) (by decide) _ (Nat.le_refl _)) (by omega), map_ok hO hfew, Ran.to (by omega) fun q hq e => by rw [get_new (by omega), get_put_ne e]⟩
  simp only [fcs, gl, iv] at hT hg
  rw [runL_pf (fn := f24) rfl rfl]
  simp [fcs, gl, hg, hT, filt_t, over]
theorem fret_run {h : HP} {ck cf ca cb : Nat} {F : Flt} (x n : Int) (hS : FlS h ck cf ca cb F) (hO : Ok N F) : ∃ h' ck', runL cfg 25 [.pt ⟨34, cf, 5⟩ 15 0 0, iv x, iv n] h ck = some (iv (retP F x n).2, h', ck') ∧ FlS h' ck' cf ca cb (retP F x n).1 ∧ Ok N (retP F x n).1 ∧ Ran h ck cf ca cb h' ck' ca cb := by
  obtain ⟨v, hB, l1, l2, l3, hr⟩ := hS
  have hg := hB.1
  have hT := fun s k => callEv_tr (C := cfg) (pret_ret F.pe F.ph x n hO.f0.ph.1 hO.f0.ph.2) rfl rfl rfl s k
  have hfew := pret_few (e := F.pe) x n hO.f0.ph
  unfold retP
  generalize pret F.pe F.ph x n = r at *
  obtain ⟨e, ph, er⟩ := r
  have hX : FlS (h.put ⟨34, cf, 5⟩ ⟨34, cf, 5⟩ (.box 88 (fcs { F with pe := e, ph := ph } v))) ck cf ca cb { F with pe := e, ph := ph } := fls_put hB l1 l2 l3 hr hB.2 rfl rfl rfl rfl rfl rfl rfl rfl
  refine ⟨(⟨7, ck + 1, 10⟩, .box 50 [iv e, .t (gl ph)]) :: h.put ⟨34, cf, 5⟩ ⟨34, cf, 5⟩ (.box 88 (fcs { F with pe := e, ph := ph } v)), ck + 4, ?_, fls_le (fls_new hX (s := 7) (c := ck + 1) (o := 10) (by decide) (by decide) (by decide) _ (Nat.le_refl _)) (by omega), map_ok hO hfew, Ran.to (by omega) fun q hq e => by rw [get_new (by omega), get_put_ne e]⟩
  simp only [fcs, gl, iv] at hT hg
  rw [runL_pf (fn := f25) rfl rfl]
  simp [fcs, gl, hg, hT, filt_t, over]
end
section
variable {N : Nat}
theorem fls_fr {h h' : HP} {ck ck' cf ca cb : Nat} {F : Flt} (hS : FlS h ck cf ca cb F) (hle : ck ≤ ck') (hfr : ∀ q, q.c < ck → h'.get q = h.get q) : FlS h' ck' cf ca cb F := by
  obtain ⟨v, hB, l1, l2, l3, hr⟩ := hS
  refine ⟨v, ⟨?_, hB.2⟩, by omega, by omega, by omega, fun hc => ?_⟩
  · rw [hfr _ l1]; exact hB.1
  · obtain ⟨r1, r2, r3, r4, r5⟩ := hr hc
    exact ⟨r1, r2, r3, by rw [hfr _ l2]; exact r4, by rw [hfr _ l3]; exact r5⟩
theorem callEv_rdo {C : Cfg} {f : Nat} {args ps : List V} {ty sz : Nat} {els : List (List T)} (h : RetO C f ps ty sz els) (hm : C.hpm f = false) (ho : C.own f = true) (ha : RdA args ps) (s : St) (k : Key) : callEv C (runL C) f args s k = some (.ow k sz 0 els.length, (k, .row ty sz els false) :: s.hp, s.ck) := by
  rw [callEv_o hm ho (rdA_is ha s.hp).1 h, (rdA_is ha s.hp).2]; rfl
theorem bag_run {h : HP} {ck cf ca cb : Nat} {F : Flt} (hS : FlS h ck cf ca cb F) (hO : Ok N F) : runL cfg 26 [.pt ⟨34, cf, 5⟩ 15 0 0] h ck = some (.ow ⟨7, ck + 1, 4⟩ 1 0 F.bag.length, (⟨7, ck + 1, 4⟩, .row 9 1 (slc F.bag) false) :: (⟨2, ck, 0⟩, .row 9 1 [] false) :: h, ck + 2) := by
  obtain ⟨v, hB, l1, l2, l3, hr⟩ := hS
  have hg := hB.1
  obtain ⟨o0, o1, o2, o3, o4, o5, o6⟩ := hB.2
  have hc := fun s k => callEv_rdo (C := cfg) (clones_ret F.bag hO.f0.bag) rfl rfl (rdA_v o5 rdA_nil) s k
  have hl := slc_len F.bag
  rw [hl] at hc
  simp only [fcs] at hg
  rw [runL_pf (fn := f26) rfl rfl]
  simp [hg, hc, filt_t]
def doneP (F : Flt) : List (List Int) × Bool := if F.at_ < F.m.lays.length then ([], false) else (F.toks, true)
def workedP (F : Flt) : Nat := (F.led.map (·.length)).sum
def wkS (F : Flt) (i : Nat) : Nat := ((F.led.take i).map (·.length)).sum
def wkI (F : Flt) (v : Vs) (h : HP) (ck0 : Nat) (i : Nat) (s : St) : Prop := ∃ ck, ck0 ≤ ck ∧ s = ⟨[(3, iv (wkS F i)), (9, .ag [v.l0, v.l1, v.l2, v.l3, v.l4]), (10, iv (i : Int))], h, ck⟩
theorem wk_bound {N : Nat} {F : Flt} (hO : Ok N F) (i : Nat) : wkS F i ≤ 5 * N := by
  have key : ∀ (l : List (List Ent)), (∀ x ∈ l, x.length ≤ N) → (l.map (·.length)).sum ≤ l.length * N := by
    intro l
    induction l with
    | nil => intro _; simp
    | cons a l ih =>
      intro h
      have h1 := ih (fun x hx => h x (List.mem_cons_of_mem _ hx))
      have h2 := h a List.mem_cons_self
      simp only [List.map_cons, List.sum_cons, List.length_cons, Nat.add_mul]
      omega
  have := key (F.led.take i) (fun x hx => (hO.led x (List.mem_of_mem_take hx)).1)
  have hl : (F.led.take i).length ≤ 5 := by simp [hO.led5]; omega
  have := Nat.mul_le_mul_right N hl
  unfold wkS
  omega
theorem wk_loop {h : HP} {F : Flt} {v : Vs} (hV : VsOk F v) (hO : Ok N F) (hN : N ≤ 1000000) (ck : Nat) : ∃ e ck', ck ≤ ck' ∧ evL cfg (.loop f27l0) ⟨[(3, iv 0), (9, .ag [v.l0, v.l1, v.l2, v.l3, v.l4]), (10, iv 0)], h, ck⟩ = some (.exit 0, ⟨(3, iv (workedP F)) :: e, h, ck'⟩) := by
  obtain ⟨o0, o1, o2, o3, o4, -⟩ := hV
  have h5 := hO.led5
  refine loop_q (Q := fun E => ∃ e ck', ck ≤ ck' ∧ E = some (.exit 0, ⟨(3, iv (workedP F)) :: e, h, ck'⟩)) 5 (wkI F v h ck) ?_ ?_ _ ⟨ck, Nat.le_refl _, rfl⟩
  · rintro i s hi ⟨ck, hck, rfl⟩
    have hs : wkS F (i + 1) = wkS F i + (F.led.getD i []).length := by
      unfold wkS
      have hil : i < F.led.length := by omega
      have e : F.led.getD i [] = F.led[i] := by simp [List.getD_eq_getElem?_getD, hil]
      rw [List.take_succ_eq_append_getElem hil, List.map_append, List.sum_append, e]
      simp only [List.map_cons, List.map_nil, List.sum_cons, List.sum_nil, Nat.add_zero]
    have b1 := wk_bound hO (i + 1)
    have hw : IntKind.i64.wrap ((wkS F i : Int) + ((F.led.getD i []).length : Int)) = (wkS F (i + 1) : Int) := by
      rw [hs] at b1 ⊢
      rw [wrap_id (by omega) (by omega)]; rfl
    have q0 := rd_len (xs := (F.led.getD 0 []).map enT) o0
    have q1 := rd_len (xs := (F.led.getD 1 []).map enT) o1
    have q2 := rd_len (xs := (F.led.getD 2 []).map enT) o2
    have q3 := rd_len (xs := (F.led.getD 3 []).map enT) o3
    have q4 := rd_len (xs := (F.led.getD 4 []).map enT) o4
    simp only [List.length_map, List.getD_eq_getElem?_getD] at q0 q1 q2 q3 q4 hw
    have e1 : IntKind.i64.wrap 1 = 1 := by decide
    have e2 : IntKind.i64.wrap 2 = 2 := by decide
    have e3 : IntKind.i64.wrap 3 = 3 := by decide
    have e4 : IntKind.i64.wrap 4 = 4 := by decide
    have e5 : IntKind.i64.wrap 5 = 5 := by decide
    match i, hi with
    | 0, _ => simp only [Int.natCast_zero] at hw ⊢
              simp [f27l0e, q0, filt_t, hw, e1]; exact ⟨_, by omega, rfl⟩
    | 1, _ => simp [f27l0e, q1, filt_t, hw, e2]; exact ⟨_, by omega, rfl⟩
    | 2, _ => simp [f27l0e, q2, filt_t, hw, e3]; exact ⟨_, by omega, rfl⟩
    | 3, _ => simp [f27l0e, q3, filt_t, hw, e4]; exact ⟨_, by omega, rfl⟩
    | 4, _ => simp [f27l0e, q4, filt_t, hw, e5]; exact ⟨_, by omega, rfl⟩
  · rintro s ⟨ck, hck, rfl⟩
    have : wkS F 5 = workedP F := by unfold wkS workedP; rw [List.take_of_length_le (by omega)]
    rw [this]
    simp [f27l0e, filt_t]
    omega
theorem worked_run {h : HP} {ck cf ca cb : Nat} {F : Flt} (hS : FlS h ck cf ca cb F) (hO : Ok N F) (hN : N ≤ 1000000) : ∃ ck', runL cfg 27 [.pt ⟨34, cf, 5⟩ 15 0 0] h ck = some (iv (workedP F), h, ck') ∧ ck ≤ ck' := by
  obtain ⟨v, hB, l1, l2, l3, hr⟩ := hS
  have hg := hB.1
  obtain ⟨e, ck', hle, hL⟩ := wk_loop (h := h) hB.2 hO hN (ck + 1 + 1 + 1)
  refine ⟨ck' + 1, ?_, by omega⟩
  simp only [fcs] at hg
  simp at hL
  rw [runL_pf (fn := f27) rfl rfl]
  simp [hg, filt_t, hL]
end
section
variable {N : Nat}
def ledAt (F : Flt) (n : Int) : List Ent := F.led.getD n.toNat []
def nodeP (F : Flt) (a : Msg) : List Ent × Msg × Bool := workP F.m F.pe F.ph a.to (ledAt F a.to) a
def workF (F : Flt) (a : Msg) : Flt := { F with led := F.led.set a.to.toNat (nodeP F a).1, bag := if (nodeP F a).2.2 then sendB F.bag (nodeP F a).2.1 else F.bag }
def gotP (F : Flt) (s : List UInt8) : Flt :=
  if (takeP s).2 ≠ 0 then F
  else if (takeP s).1.to = 0 then answerP F (takeP s).1
  else if (takeP s).1.to ≤ 4 then workF F (takeP s).1
  else F
def delvP (F : Flt) (i : Int) : Flt × Int :=
  if (bagTake F.bag i).2.2 then (gotP { F with bag := (bagTake F.bag i).2.1 } (bagTake F.bag i).1, 0) else (F, 4)
theorem takeP_ok {s : List UInt8} (h : (takeP s).2 = 0) : wrightM (takeP s).1 = true := by
  unfold takeP at h ⊢
  split
  · rename_i c; rw [if_pos c] at h; cases h
  · rename_i c
    rw [if_neg c] at h
    split
    · rename_i c2; rw [if_pos c2] at h; cases h
    · rename_i c2
      rw [if_neg c2] at h
      split
      · rename_i c3; rw [if_pos c3] at h; cases h
      · rename_i c3
        have : wrightM (msgB s) ≠ false := fun e => c3 (.inr e)
        simpa using this
theorem takeP_vec (s : List UInt8) : (takeP s).1.vec.length ≤ 1000000 := by
  by_cases h : (takeP s).2 = 0
  · have := (wright_num (takeP_ok h)).2.2.2.2.2.1; omega
  · unfold takeP at h ⊢
    split
    · simp [msg0]
    · split
      · simp [msg0]
      · split
        · simp [msg0]
        · rename_i c1 c2 c3
          rw [if_neg c1, if_neg c2, if_neg c3] at h
          exact absurd rfl h
theorem workV_len {m : Mod} {l : List Ent} {a : Msg} (hm : FewM m) (hl : ∀ e ∈ l, e.vec.length ≤ 1000000) (pe node : Int) (ph : List (List Int)) (hf : fitsP m pe ph node a = true) : (workV m l a).length ≤ 1000000 := by
  obtain ⟨i, hi, j, hj, ei, ej, hx, hla, hea⟩ := fits_exp hf
  unfold workV
  split
  · unfold findP
    split
    · simp
    · rename_i h
      have hlt := fidx_lt (atKey (keyOf a)) l
      have hq : (fidx (atKey (keyOf a)) l).toNat < l.length := by omega
      have : l.getD (fidx (atKey (keyOf a)) l).toNat ent0 = l[(fidx (atKey (keyOf a)) l).toNat] := by simp [List.getD_eq_getElem?_getD, hq]
      simp only [this]
      exact hl _ (List.getElem_mem hq)
  · rw [hea]
    simp only [runP, scoresP, List.length_map]
    exact ((hm.2 _ (List.getElem_mem hi)).2.2 _ (List.getElem_mem hj)).2.1
theorem nodeP_ok {F : Flt} {a : Msg} (hO : Ok N F) (hav : a.vec.length ≤ 1000000) : (nodeP F a).1.length ≤ N + 1 ∧ (∀ e ∈ (nodeP F a).1, e.vec.length ≤ 1000000) ∧ (nodeP F a).2.1.vec.length ≤ 1000000 := by
  have hl : (ledAt F a.to).length ≤ N ∧ ∀ e ∈ ledAt F a.to, e.vec.length ≤ 1000000 := by
    unfold ledAt
    by_cases h : a.to.toNat < F.led.length
    · have : F.led.getD a.to.toNat [] = F.led[a.to.toNat] := by simp [List.getD_eq_getElem?_getD, h]
      rw [this]; exact hO.led _ (List.getElem_mem h)
    · have : F.led.getD a.to.toNat [] = [] := by simp [List.getD_eq_getElem?_getD, h]
      rw [this]; simp
  unfold nodeP workP
  split
  · exact ⟨by simp only; omega, hl.2, by simp [msg0]⟩
  · split
    · exact ⟨by simp only; omega, hl.2, by simp [staleOf]⟩
    · rename_i h1 h2
      have hf : fitsP F.m F.pe F.ph a.to a = true := by simpa using h1
      have hv := workV_len hO.f0.m hl.2 _ _ _ hf
      refine ⟨?_, ?_, hv⟩
      · unfold workL; split
        · simp only; omega
        · simp only [List.length_append, List.length_cons, List.length_nil]; omega
      · intro e he
        unfold workL at he
        split at he
        · exact hl.2 e he
        · rcases List.mem_append.1 he with he | he
          · exact hl.2 e he
          · rw [List.mem_singleton] at he
            rw [he]; exact hv
theorem workF_ok {F : Flt} {a : Msg} (hO : Ok N F) (hav : a.vec.length ≤ 1000000) : Ok (N + 1) (workF F a) := by
  obtain ⟨n1, n2, n3⟩ := nodeP_ok hO hav
  have hbl : (workF F a).bag.length ≤ 1000000 := by
    simp only [workF]; split
    · exact sendB_len hO.f0.bag
    · exact hO.f0.bag
  have hbs : ∀ s ∈ (workF F a).bag, s.length ≤ 100000 := by
    simp only [workF]; split
    · exact sendB_s hO.bags
    · exact hO.bags
  refine ⟨⟨hO.f0.m, hO.f0.toks, hO.f0.ntok, hO.f0.ph, hbl⟩, fun hc => ⟨(hO.f1 hc).na, (hO.f1 hc).nd, (hO.f1 hc).np, (hO.f1 hc).tok, (hO.f1 hc).toks, (hO.f1 hc).ntok, (hO.f1 hc).ph, hbl⟩, hO.ans, ?_, hbs, by simp [workF, hO.led5]⟩
  intro l hl
  simp only [workF] at hl
  rcases List.mem_or_eq_of_mem_set hl with hl | rfl
  · have := hO.led l hl; exact ⟨by omega, this.2⟩
  · exact ⟨n1, n2⟩
theorem Ok.up {F : Flt} (h : Ok N F) : Ok (N + 1) F := ⟨h.f0, h.f1, h.ans, fun l hl => ⟨by have := (h.led l hl).1; omega, (h.led l hl).2⟩, h.bags, h.led5⟩
def Vs.at (v : Vs) : Nat → V
  | 0 => v.l0 | 1 => v.l1 | 2 => v.l2 | 3 => v.l3 | _ => v.l4
def Vs.put (v : Vs) (n : Nat) (x : V) : Vs := match n with
  | 0 => { v with l0 := x } | 1 => { v with l1 := x } | 2 => { v with l2 := x } | 3 => { v with l3 := x } | _ => { v with l4 := x }
theorem vs_put {F : Flt} {v : Vs} {n : Nat} (hn : n < 5) (hV : VsOk F v) (h5 : F.led.length = 5) (l : List Ent) : VsOk { F with led := F.led.set n l } (v.put n (.t (enl l))) := by
  obtain ⟨o0, o1, o2, o3, o4, o5, o6⟩ := hV
  obtain ⟨m, pe, ph, led, bag, toks, at_, parts, ans, answd⟩ := F
  simp only at h5 o0 o1 o2 o3 o4 o5 o6
  match led, h5 with
  | [a0, a1, a2, a3, a4], _ =>
    match n, hn with
    | 0, _ => exact ⟨rd_t _, o1, o2, o3, o4, o5, o6⟩
    | 1, _ => exact ⟨o0, rd_t _, o2, o3, o4, o5, o6⟩
    | 2, _ => exact ⟨o0, o1, rd_t _, o3, o4, o5, o6⟩
    | 3, _ => exact ⟨o0, o1, o2, rd_t _, o4, o5, o6⟩
    | 4, _ => exact ⟨o0, o1, o2, o3, rd_t _, o5, o6⟩
theorem vs_at {F : Flt} {v : Vs} {n : Nat} (hn : n < 5) (hV : VsOk F v) : Rd (v.at n) (enl (F.led.getD n [])) := by
  obtain ⟨o0, o1, o2, o3, o4, o5, o6⟩ := hV
  match n, hn with
  | 0, _ => exact o0
  | 1, _ => exact o1
  | 2, _ => exact o2
  | 3, _ => exact o3
  | 4, _ => exact o4
end
section
variable {N : Nat}
def lcs (n : Nat) (x d ly pe ph l0 l1 l2 l3 l4 vb tk at_ vp va vd : V) : List V := match n with
  | 1 => [d, ly, pe, ph, l0, x, l2, l3, l4, vb, tk, at_, vp, va, vd]
  | 2 => [d, ly, pe, ph, l0, l1, x, l3, l4, vb, tk, at_, vp, va, vd]
  | 3 => [d, ly, pe, ph, l0, l1, l2, x, l4, vb, tk, at_, vp, va, vd]
  | _ => [d, ly, pe, ph, l0, l1, l2, l3, x, vb, tk, at_, vp, va, vd]
def lsel (n : Nat) (l1 l2 l3 l4 : V) : V := match n with
  | 1 => l1 | 2 => l2 | 3 => l3 | _ => l4
def wst : Pc := .seq f21r10 (.seq f21r11 f21r12)
set_option maxHeartbeats 2000000 in
theorem wst1 {h : HP} {cf c8 ck : Nat} {d ly pe ph l0 l1 l2 l3 l4 vb tk at_ vp va vd : V} {a o : Msg} {L : T} {is : Bool} (hg : h.get ⟨34, cf, 5⟩ = some (.box 88 [d, ly, pe, ph, l0, l1, l2, l3, l4, vb, tk, at_, vp, va, vd])) (h8 : h.get ⟨8, c8, 5⟩ = some (mbox a)) (ht : a.to = 1) (hW : callQ (runL cfg) 53 [.ag [d, ly], .ag [pe, ph], iv 1, l1, msgV a] h = some (.tu [.t L, msgV o, bv is])) (hl : cf < ck) :
    ∃ e, evL cfg wst ⟨[(0, .pt ⟨34, cf, 5⟩ 15 0 0), (8, .pt ⟨8, c8, 5⟩ 11 0 0), (44, bv true)], h, ck⟩ = some (.normal, ⟨(0, .pt ⟨34, cf, 5⟩ 15 0 0) :: (11, .pt ⟨11, ck, 23⟩ 11 0 0) :: (78, bv is) :: e, HP.put ((⟨11, ck, 23⟩, mbox o) :: h) ⟨34, cf, 5⟩ ⟨34, cf, 5⟩ (.box 88 (lcs 1 (.t L) d ly pe ph l0 l1 l2 l3 l4 vb tk at_ vp va vd)), ck + 1 + 1 + 1⟩) := by
  unfold wst
  simp only [msgV, il, iv, bv] at hW
  simp only [mbox, il, iv, ht] at h8
  rw [ht] at hW
  simp [hg, h8, hW, filt_t, lcs, mbox, HP.put, over]
set_option maxHeartbeats 2000000 in
theorem wst2 {h : HP} {cf c8 ck : Nat} {d ly pe ph l0 l1 l2 l3 l4 vb tk at_ vp va vd : V} {a o : Msg} {L : T} {is : Bool} (hg : h.get ⟨34, cf, 5⟩ = some (.box 88 [d, ly, pe, ph, l0, l1, l2, l3, l4, vb, tk, at_, vp, va, vd])) (h8 : h.get ⟨8, c8, 5⟩ = some (mbox a)) (ht : a.to = 2) (hW : callQ (runL cfg) 53 [.ag [d, ly], .ag [pe, ph], iv 2, l2, msgV a] h = some (.tu [.t L, msgV o, bv is])) (hl : cf < ck) :
    ∃ e, evL cfg wst ⟨[(0, .pt ⟨34, cf, 5⟩ 15 0 0), (8, .pt ⟨8, c8, 5⟩ 11 0 0), (44, bv true)], h, ck⟩ = some (.normal, ⟨(0, .pt ⟨34, cf, 5⟩ 15 0 0) :: (11, .pt ⟨11, ck, 23⟩ 11 0 0) :: (78, bv is) :: e, HP.put ((⟨11, ck, 23⟩, mbox o) :: h) ⟨34, cf, 5⟩ ⟨34, cf, 5⟩ (.box 88 (lcs 2 (.t L) d ly pe ph l0 l1 l2 l3 l4 vb tk at_ vp va vd)), ck + 1 + 1 + 1⟩) := by
  unfold wst
  simp only [msgV, il, iv, bv] at hW
  simp only [mbox, il, iv, ht] at h8
  rw [ht] at hW
  simp [hg, h8, hW, filt_t, lcs, mbox, HP.put, over]
set_option maxHeartbeats 2000000 in
theorem wst3 {h : HP} {cf c8 ck : Nat} {d ly pe ph l0 l1 l2 l3 l4 vb tk at_ vp va vd : V} {a o : Msg} {L : T} {is : Bool} (hg : h.get ⟨34, cf, 5⟩ = some (.box 88 [d, ly, pe, ph, l0, l1, l2, l3, l4, vb, tk, at_, vp, va, vd])) (h8 : h.get ⟨8, c8, 5⟩ = some (mbox a)) (ht : a.to = 3) (hW : callQ (runL cfg) 53 [.ag [d, ly], .ag [pe, ph], iv 3, l3, msgV a] h = some (.tu [.t L, msgV o, bv is])) (hl : cf < ck) :
    ∃ e, evL cfg wst ⟨[(0, .pt ⟨34, cf, 5⟩ 15 0 0), (8, .pt ⟨8, c8, 5⟩ 11 0 0), (44, bv true)], h, ck⟩ = some (.normal, ⟨(0, .pt ⟨34, cf, 5⟩ 15 0 0) :: (11, .pt ⟨11, ck, 23⟩ 11 0 0) :: (78, bv is) :: e, HP.put ((⟨11, ck, 23⟩, mbox o) :: h) ⟨34, cf, 5⟩ ⟨34, cf, 5⟩ (.box 88 (lcs 3 (.t L) d ly pe ph l0 l1 l2 l3 l4 vb tk at_ vp va vd)), ck + 1 + 1 + 1⟩) := by
  unfold wst
  simp only [msgV, il, iv, bv] at hW
  simp only [mbox, il, iv, ht] at h8
  rw [ht] at hW
  simp [hg, h8, hW, filt_t, lcs, mbox, HP.put, over]
set_option maxHeartbeats 2000000 in
theorem wst4 {h : HP} {cf c8 ck : Nat} {d ly pe ph l0 l1 l2 l3 l4 vb tk at_ vp va vd : V} {a o : Msg} {L : T} {is : Bool} (hg : h.get ⟨34, cf, 5⟩ = some (.box 88 [d, ly, pe, ph, l0, l1, l2, l3, l4, vb, tk, at_, vp, va, vd])) (h8 : h.get ⟨8, c8, 5⟩ = some (mbox a)) (ht : a.to = 4) (hW : callQ (runL cfg) 53 [.ag [d, ly], .ag [pe, ph], iv 4, l4, msgV a] h = some (.tu [.t L, msgV o, bv is])) (hl : cf < ck) :
    ∃ e, evL cfg wst ⟨[(0, .pt ⟨34, cf, 5⟩ 15 0 0), (8, .pt ⟨8, c8, 5⟩ 11 0 0), (44, bv true)], h, ck⟩ = some (.normal, ⟨(0, .pt ⟨34, cf, 5⟩ 15 0 0) :: (11, .pt ⟨11, ck, 23⟩ 11 0 0) :: (78, bv is) :: e, HP.put ((⟨11, ck, 23⟩, mbox o) :: h) ⟨34, cf, 5⟩ ⟨34, cf, 5⟩ (.box 88 (lcs 4 (.t L) d ly pe ph l0 l1 l2 l3 l4 vb tk at_ vp va vd)), ck + 1 + 1 + 1⟩) := by
  unfold wst
  simp only [msgV, il, iv, bv] at hW
  simp only [mbox, il, iv, ht] at h8
  rw [ht] at hW
  simp [hg, h8, hW, filt_t, lcs, mbox, HP.put, over]
end
section
variable {N : Nat}
theorem vs_same {v : Vs} {n : Nat} (hn : n < 5) (x : V) : (v.put n x).vp = v.vp ∧ (v.put n x).va = v.va ∧ (v.put n x).vd = v.vd := by
  match n, hn with
  | 0, _ => exact ⟨rfl, rfl, rfl⟩
  | 1, _ => exact ⟨rfl, rfl, rfl⟩
  | 2, _ => exact ⟨rfl, rfl, rfl⟩
  | 3, _ => exact ⟨rfl, rfl, rfl⟩
  | 4, _ => exact ⟨rfl, rfl, rfl⟩
theorem fcs_lcs {F : Flt} {v : Vs} {n : Nat} (h1 : 1 ≤ n) (h4 : n ≤ 4) (x : V) (l : List (List Ent)) : fcs { F with led := l } (v.put n x) = lcs n x (iv F.m.dim) (.t (laysT F.m)) (iv F.pe) (.t (gl F.ph)) v.l0 v.l1 v.l2 v.l3 v.l4 v.vb (.t (gl F.toks)) (iv F.at_) v.vp v.va v.vd := by
  match n, h1, h4 with
  | 1, _, _ => rfl
  | 2, _, _ => rfl
  | 3, _, _ => rfl
  | 4, _, _ => rfl
theorem wst_all {h : HP} {cf c8 ck : Nat} {d ly pe ph l0 l1 l2 l3 l4 vb tk at_ vp va vd : V} {a o : Msg} {L : T} {is : Bool} {n : Nat} (h1 : 1 ≤ n) (h4 : n ≤ 4) (hg : h.get ⟨34, cf, 5⟩ = some (.box 88 [d, ly, pe, ph, l0, l1, l2, l3, l4, vb, tk, at_, vp, va, vd])) (h8 : h.get ⟨8, c8, 5⟩ = some (mbox a)) (ht : a.to = n) (hW : callQ (runL cfg) 53 [.ag [d, ly], .ag [pe, ph], iv n, lsel n l1 l2 l3 l4, msgV a] h = some (.tu [.t L, msgV o, bv is])) (hl : cf < ck) :
    ∃ e, evL cfg wst ⟨[(0, .pt ⟨34, cf, 5⟩ 15 0 0), (8, .pt ⟨8, c8, 5⟩ 11 0 0), (44, bv true)], h, ck⟩ = some (.normal, ⟨(0, .pt ⟨34, cf, 5⟩ 15 0 0) :: (11, .pt ⟨11, ck, 23⟩ 11 0 0) :: (78, bv is) :: e, HP.put ((⟨11, ck, 23⟩, mbox o) :: h) ⟨34, cf, 5⟩ ⟨34, cf, 5⟩ (.box 88 (lcs n (.t L) d ly pe ph l0 l1 l2 l3 l4 vb tk at_ vp va vd)), ck + 1 + 1 + 1⟩) := by
  match n, h1, h4 with
  | 1, _, _ => exact wst1 hg h8 ht hW hl
  | 2, _, _ => exact wst2 hg h8 ht hW hl
  | 3, _, _ => exact wst3 hg h8 ht hW hl
  | 4, _, _ => exact wst4 hg h8 ht hW hl
def wtl : Pc := .cond (.tmp 78) f21r13 .skip
theorem flb_work {h : HP} {cf ck : Nat} {F : Flt} {v : Vs} {n : Nat} (h1 : 1 ≤ n) (h4 : n ≤ 4) (hB : FlB h cf F v) (h5 : F.led.length = 5) (hl : cf < ck) (l : List Ent) (ob : Ob) : ∃ v' : Vs, FlB (HP.put ((⟨11, ck, 23⟩, ob) :: h) ⟨34, cf, 5⟩ ⟨34, cf, 5⟩ (.box 88 (lcs n (.t (enl l)) (iv F.m.dim) (.t (laysT F.m)) (iv F.pe) (.t (gl F.ph)) v.l0 v.l1 v.l2 v.l3 v.l4 v.vb (.t (gl F.toks)) (iv F.at_) v.vp v.va v.vd))) cf { F with led := F.led.set n l } v' ∧ v'.vp = v.vp ∧ v'.va = v.va ∧ v'.vd = v.vd := by
  obtain ⟨q1, q2, q3⟩ := vs_same (v := v) (n := n) (by omega) (.t (enl l))
  refine ⟨v.put n (.t (enl l)), ⟨?_, vs_put (by omega) hB.2 h5 l⟩, q1, q2, q3⟩
  rw [fcs_lcs h1 h4, hp_get_put, if_pos rfl, get_new (q := ⟨34, cf, 5⟩) hl, hB.1]
  rfl
theorem lsel_at {v : Vs} {n : Nat} (h1 : 1 ≤ n) (h4 : n ≤ 4) : lsel n v.l1 v.l2 v.l3 v.l4 = v.at n := by
  match n, h1, h4 with
  | 1, _, _ => rfl
  | 2, _, _ => rfl
  | 3, _, _ => rfl
  | 4, _, _ => rfl
theorem wtl_run {h : HP} {cf ck c11 : Nat} {F : Flt} {v : Vs} (hB : FlB h cf F v) (o : Msg) (h11 : h.get ⟨11, c11, 23⟩ = some (mbox o)) (is : Bool) (e : List (Nat × V)) (hb : F.bag.length ≤ 1000000) (hv : o.vec.length ≤ 1000000) :
    ∃ h' ck' vb e', evL cfg wtl ⟨(0, .pt ⟨34, cf, 5⟩ 15 0 0) :: (11, .pt ⟨11, c11, 23⟩ 11 0 0) :: (78, bv is) :: e, h, ck⟩ = some (.normal, ⟨e', h', ck'⟩) ∧ ck ≤ ck' ∧ FlB h' cf { F with bag := if is then sendB F.bag o else F.bag } { v with vb := vb } ∧ ∀ q, q.c < ck → q ≠ ⟨34, cf, 5⟩ → h'.get q = h.get q := by
  unfold wtl
  cases is with
  | false => exact ⟨h, ck, v.vb, _, by simp [bv]; rfl, Nat.le_refl _, hB, fun _ _ _ => rfl⟩
  | true =>
    obtain ⟨h3, ck3, vb3, hrun, hle, hB3, hfr3⟩ := send_run (ck := ck + 1) o hB hb hv
    have hS := fun e k => callEv_h (C := cfg) (s := ⟨e, h, ck⟩) rfl hrun k
    refine ⟨h3, ck3 + 1 + 1, vb3, [], ?_, by omega, hB3, fun q hq hk => hfr3 q (by omega) hk⟩
    simp only [mbox, il, iv] at h11
    simp only [msgV, il, iv] at hS
    simp [bv, h11, hS, filt_t]
theorem work_stage {h : HP} {cf ck c8 : Nat} {F : Flt} {v : Vs} (a : Msg) (hB : FlB h cf F v) (hO : Ok N F) (hN : N ≤ 800000) (hav : a.vec.length ≤ 1000000) (h0 : 1 ≤ a.to) (h4 : a.to ≤ 4) (h8 : h.get ⟨8, c8, 5⟩ = some (mbox a)) (hl : cf < ck) :
    ∃ e s, evL cfg wst ⟨[(0, .pt ⟨34, cf, 5⟩ 15 0 0), (8, .pt ⟨8, c8, 5⟩ 11 0 0), (44, bv true)], h, ck⟩ = some (.normal, s) ∧ ∃ h' ck' v', evL cfg wtl s = some (.normal, ⟨e, h', ck'⟩) ∧ ck ≤ ck' ∧ FlB h' cf (workF F a) v' ∧ v'.vp = v.vp ∧ v'.va = v.va ∧ v'.vd = v.vd ∧ ∀ q, q.c < ck → q ≠ ⟨34, cf, 5⟩ → h'.get q = h.get q := by
  obtain ⟨n, hn2⟩ : ∃ n : Nat, a.to = n := ⟨a.to.toNat, by omega⟩
  have hn1 : 1 ≤ n := by omega
  have hn4 : n ≤ 4 := by omega
  have hlok : (F.led.getD n []).length ≤ N ∧ ∀ e ∈ F.led.getD n [], e.vec.length ≤ 1000000 := by
    have hlt : n < F.led.length := by rw [hO.led5]; omega
    have : F.led.getD n [] = F.led[n] := by simp [List.getD_eq_getElem?_getD, hlt]
    rw [this]; exact hO.led _ (List.getElem_mem hlt)
  have hW := fun hp => callQ_rd (C := cfg) (args := [modV F.m, mapV F.pe F.ph, iv a.to, v.at n, msgV a]) (work_ret F.m F.pe F.ph a.to (F.led.getD n []) a hO.f0.m hO.f0.ph.1 (fun r hr => by have := hO.f0.ph.2 r hr; omega) (by omega) (by omega) hlok.2) (rdA_ag (cs := [.i .i64 F.m.dim, laysT F.m]) (rdA_ag (cs := [.i .i64 F.pe, gl F.ph]) (rdA_t (rdA_v (vs_at (by omega) hB.2) (rdA_ag (cs := msgC a) rdA_nil))))) hp
  have hnp : nodeP F a = workP F.m F.pe F.ph a.to (F.led.getD n []) a := by unfold nodeP ledAt; rw [hn2]; rfl
  obtain ⟨n1, n2, n3⟩ := nodeP_ok hO (a := a) hav
  unfold workF
  have hto : a.to.toNat = n := by omega
  rw [hto]
  rw [← hnp] at hW
  generalize nodeP F a = r at *
  obtain ⟨L, out, is⟩ := r
  simp only at hW n1 n2 n3 ⊢
  rw [hn2, ← lsel_at hn1 hn4] at hW
  obtain ⟨e, he⟩ := wst_all hn1 hn4 hB.1 h8 hn2 (hW _) hl
  obtain ⟨v2, hB2, q1, q2, q3⟩ := flb_work hn1 hn4 hB hO.led5 hl L (mbox out)
  have h11 : HP.get (HP.put ((⟨11, ck, 23⟩, mbox out) :: h) ⟨34, cf, 5⟩ ⟨34, cf, 5⟩ (.box 88 (lcs n (.t (enl L)) (iv F.m.dim) (.t (laysT F.m)) (iv F.pe) (.t (gl F.ph)) v.l0 v.l1 v.l2 v.l3 v.l4 v.vb (.t (gl F.toks)) (iv F.at_) v.vp v.va v.vd))) ⟨11, ck, 23⟩ = some (mbox out) := by
    rw [get_put_ne (by simp)]; simp [HP.get]
  obtain ⟨h3, ck3, vb3, e3, hrun, hle, hB3, hfr3⟩ := wtl_run (ck := ck + 1 + 1 + 1) hB2 out h11 is e hO.f0.bag n3
  refine ⟨e3, _, he, h3, ck3, _, hrun, by omega, hB3, q1, q2, q3, fun q hq hk => ?_⟩
  rw [hfr3 q (by omega) hk, get_put_ne hk, get_new hq]
end
section
variable {N : Nat}
theorem evL_pre {C : Cfg} {a b c x : Pc} {s s' : St} (h : evL C (.seq a (.seq b c)) s = some (.normal, s')) : evL C (.seq a (.seq b (.seq c x))) s = evL C x s' := by
  have key : ∀ (r : Option (Ex × St)) (f : St → Option (Ex × St)) (t : Option (Ex × St)), thenC r f = t → ∀ s', t = some (.normal, s') → ∃ s1, r = some (.normal, s1) ∧ f s1 = some (.normal, s') := by
    intro r f t h s' ht
    subst ht
    cases r with
    | none => simp [thenC] at h
    | some r =>
      obtain ⟨o, s1⟩ := r
      cases o with
      | normal => exact ⟨s1, rfl, h⟩
      | _ => simp [thenC] at h
  rw [evL_seq] at h
  obtain ⟨s1, e1, h⟩ := key _ _ _ h _ rfl
  rw [evL_seq] at h
  obtain ⟨s2, e2, h⟩ := key _ _ _ h _ rfl
  rw [evL_seq, e1]
  show evL C _ s1 = _
  rw [evL_seq, e2]
  show evL C _ s2 = _
  rw [evL_seq, h]
  rfl
def dvW : Pc := .seq f21r10 (.seq f21r11 (.seq f21r12 wtl))
theorem dvW_run {h : HP} {cf ck c8 : Nat} {F : Flt} {v : Vs} (a : Msg) (hB : FlB h cf F v) (hO : Ok N F) (hN : N ≤ 800000) (hav : a.vec.length ≤ 1000000) (h0 : 1 ≤ a.to) (h4 : a.to ≤ 4) (h8 : h.get ⟨8, c8, 5⟩ = some (mbox a)) (hl : cf < ck) :
    ∃ e h' ck' v', evL cfg dvW ⟨[(0, .pt ⟨34, cf, 5⟩ 15 0 0), (8, .pt ⟨8, c8, 5⟩ 11 0 0), (44, bv true)], h, ck⟩ = some (.normal, ⟨e, h', ck'⟩) ∧ ck ≤ ck' ∧ FlB h' cf (workF F a) v' ∧ v'.vp = v.vp ∧ v'.va = v.va ∧ v'.vd = v.vd ∧ ∀ q, q.c < ck → q ≠ ⟨34, cf, 5⟩ → h'.get q = h.get q := by
  obtain ⟨e, s, hs, h', ck', v', ht, r⟩ := work_stage (N := N) a hB hO hN hav h0 h4 h8 hl
  exact ⟨e, h', ck', v', (evL_pre hs).trans ht, r⟩
def dvK : Pc := .block 0 (.seq f21r6 (.cond (.tmp 34) .skip (.seq f21r7 (.cond (.tmp 37) f21r8 (.seq f21r9 (.cond (.tmp 44) dvW .skip))))))
abbrev dvB : Pc := (.seq f21r0 (.seq f21r1 (.seq (.seq f21r2 (.cond (.tmp 24) (.seq f21r3 .ret) .skip)) (.seq f21r4 (.seq f21r5 (.seq dvK (.seq f21r14 .ret)))))))
def gotM (F : Flt) (a : Msg) (st : Int) : Flt := if st ≠ 0 then F else if a.to = 0 then answerP F a else if a.to ≤ 4 then workF F a else F
theorem ran_in {h h' : HP} {ck cf ca cb ck1 ck2 ck' ca' cb' : Nat} (r : Ran h ck1 cf ca cb h' ck2 ca' cb') (h1 : ck ≤ ck1) (h2 : ck2 ≤ ck') : Ran h ck cf ca cb h' ck' ca' cb' := by
  have := r.le
  refine ⟨by omega, fun q hq a b c => r.fr q (by omega) a b c, ?_, ?_⟩
  · rcases r.ca with e | e
    · exact .inl e
    · exact .inr (by omega)
  · rcases r.cb with e | e
    · exact .inl e
    · exact .inr (by omega)
theorem dvK_run {h : HP} {ck cf ca cb c8 : Nat} {F : Flt} (a : Msg) (st : Int) (hS : FlS h ck cf ca cb F) (hO : Ok N F) (hN : N ≤ 800000) (hav : a.vec.length ≤ 1000000) (hto : st = 0 → 0 ≤ a.to) (h8 : h.get ⟨8, c8, 5⟩ = some (mbox a)) : ∃ e h' ck' ca' cb', evL cfg dvK ⟨[(0, .pt ⟨34, cf, 5⟩ 15 0 0), (8, .pt ⟨8, c8, 5⟩ 11 0 0), (9, iv st)], h, ck⟩ = some (.normal, ⟨e, h', ck'⟩) ∧ FlS h' ck' cf ca' cb' (gotM F a st) ∧ Ok (N + 1) (gotM F a st) ∧ Ran h ck cf ca cb h' ck' ca' cb' := by
  unfold dvK gotM
  have h8' := h8
  simp only [mbox, il, iv] at h8'
  by_cases c1 : st = 0
  case neg =>
    rw [if_pos c1]
    refine ⟨[(0, .pt ⟨34, cf, 5⟩ 15 0 0), (8, .pt ⟨8, c8, 5⟩ 11 0 0), (34, bv true)], h, ck + 1, ca, cb, ?_, fls_le hS (by omega), hO.up, Ran.to (by omega) fun _ _ _ => rfl⟩
    have b1 : (st != 0) = true := by simpa using c1
    simp [b1, bv, filt_t]
  have h0 := hto c1
  rw [if_neg (by simpa using c1)]
  subst c1
  by_cases c2 : a.to = 0
  · rw [if_pos c2]
    obtain ⟨h3, ck3, ca3, cb3, hrun, hS3, hO3, hR3⟩ := answer_run (ck := ck + 1 + 1 + 1) a (fls_le hS (by omega)) hO hav
    have hA := fun e k => callEv_h (C := cfg) (s := ⟨e, h, ck + 1 + 1⟩) rfl hrun k
    have b2 : (a.to == 0) = true := by simpa using c2
    refine ⟨[], h3, ck3 + 2, ca3, cb3, ?_, fls_le hS3 (by omega), hO3.up, ran_in hR3 (by omega) (by omega)⟩
    simp only [msgV, il, iv] at hA
    simp [h8', hA, b2, filt_t]
  rw [if_neg c2]
  have b2 : (a.to == 0) = false := by simpa using c2
  by_cases c3 : a.to ≤ 4
  · rw [if_pos c3]
    obtain ⟨v, hB, l1, l2, l3, hr⟩ := hS
    obtain ⟨e3, h3, ck3, v3, hrun, hle, hB3, q1, q2, q3, hfr⟩ := dvW_run (ck := ck + 1 + 1 + 1) a hB hO hN hav (by omega) c3 h8 (by omega)
    refine ⟨e3, h3, ck3, ca, cb, ?_, ⟨v3, hB3, by omega, by omega, by omega, fun hc => ?_⟩, workF_ok hO hav, ⟨by omega, fun q hq h1 _ _ => hfr q (by omega) h1, .inl rfl, .inl rfl⟩⟩
    · simp only [bv] at hrun
      simp [h8', b2, c3, filt_t, hrun]
    · obtain ⟨r1, r2, r3, r4, r5⟩ := hr hc
      exact ⟨by rw [q1, r1]; rfl, by rw [q2, r2]; rfl, by rw [q3, r3]; rfl, by rw [hfr _ (by simp only; omega) (by simp)]; exact r4, by rw [hfr _ (by simp only; omega) (by simp)]; exact r5⟩
  · rw [if_neg c3]
    refine ⟨[(0, .pt ⟨34, cf, 5⟩ 15 0 0), (8, .pt ⟨8, c8, 5⟩ 11 0 0), (44, bv false)], h, ck + 3, ca, cb, ?_, fls_le hS (by omega), hO.up, Ran.to (by omega) fun _ _ _ => rfl⟩
    simp [bv, h8', b2, c3, filt_t]
end
section
variable {N : Nat}
theorem ran_mid {h h' : HP} {ck cf ca cb ck' ca' cb' : Nat} {ob ob2 : Ob} (r : Ran ((⟨8, ck + 4, 5⟩, ob2) :: h.put ⟨34, cf, 5⟩ ⟨34, cf, 5⟩ ob) (ck + 5) cf ca cb h' ck' ca' cb') : Ran h ck cf ca cb h' ck' ca' cb' := by
  have := r.le
  refine ⟨by omega, fun q hq a b c => ?_, ?_, ?_⟩
  · rw [r.fr q (by omega) a b c, get_new (by omega), get_put_ne a]
  · rcases r.ca with e | e
    · exact .inl e
    · exact .inr (by omega)
  · rcases r.cb with e | e
    · exact .inl e
    · exact .inr (by omega)
theorem deliver_run {h : HP} {ck cf ca cb : Nat} {F : Flt} (i : Int) (hS : FlS h ck cf ca cb F) (hO : Ok N F) (hN : N ≤ 800000) : ∃ h' ck' ca' cb', runL cfg 21 [.pt ⟨34, cf, 5⟩ 15 0 0, iv i] h ck = some (iv (delvP F i).2, h', ck') ∧ FlS h' ck' cf ca' cb' (delvP F i).1 ∧ Ok (N + 1) (delvP F i).1 ∧ Ran h ck cf ca cb h' ck' ca' cb' := by
  have hS0 := hS
  obtain ⟨v, hB, l1, l2, l3, hr⟩ := hS
  have hg := hB.1
  obtain ⟨o0, o1, o2, o3, o4, o5, o6⟩ := hB.2
  have hT := fun s k => callEv_rd (C := cfg) (btake_ret F.bag i hO.f0.bag) rfl rfl (rdA_v o5 (rdA_t rdA_nil)) s k
  obtain ⟨t1, t2, t3⟩ := take_s (i := i) hO.bags
  unfold delvP
  generalize bagTake F.bag i = r at *
  obtain ⟨s, rest, ok⟩ := r
  simp only at t1 t2 t3 hT ⊢
  rw [runL_pf (fn := ⟨2, 82, [.tmp 4], dvB⟩) rfl rfl]
  simp only [iv, bv] at hT
  cases ok with
  | false =>
    refine ⟨h, ck + 4, ca, cb, ?_, fls_le hS0 (by omega), hO.up, Ran.to (by omega) fun _ _ _ => rfl⟩
    simp only [fcs] at hg
    simp [dvB, hg, hT, filt_t]
  | true =>
    have hV : VsOk { F with bag := rest } { v with vb := .t (sl rest) } := ⟨o0, o1, o2, o3, o4, rd_t _, o6⟩
    have hS1 := fls_put hB l1 l2 l3 hr hV rfl rfl rfl rfl rfl rfl rfl rfl
    have hO1 : Ok N { F with bag := rest } := bag_ok hO (by have := hO.f0.bag; omega) t1
    have hk := fun t k => callEv_tr (C := cfg) (take_ret s t2) rfl rfl rfl t k
    have hav := takeP_vec s
    have htw : (takeP s).2 = 0 → 0 ≤ (takeP s).1.to := fun e => (wright_num (takeP_ok e)).2.2.2.2.2.2.1.1
    have hgm : gotP { F with bag := rest } s = gotM { F with bag := rest } (takeP s).1 (takeP s).2 := rfl
    simp only [↓reduceIte]
    rw [hgm]
    generalize takeP s = q at *
    obtain ⟨a, st⟩ := q
    simp only at hk hav htw ⊢
    obtain ⟨e, h3, ck3, ca3, cb3, hrun, hS3, hO3, hR3⟩ := dvK_run (c8 := ck + 4) (ck := ck + 5) (h := (⟨8, ck + 4, 5⟩, mbox a) :: h.put ⟨34, cf, 5⟩ ⟨34, cf, 5⟩ (.box 88 (fcs { F with bag := rest } { v with vb := .t (sl rest) }))) a st (fls_new hS1 (by decide) (by decide) (by decide) _ (by omega)) hO1 hN hav htw (by simp [HP.get])
    refine ⟨h3, ck3 + 1, ca3, cb3, ?_, fls_le hS3 (by omega), hO3, ?_⟩
    · simp only [msgV, il, iv] at hk
      simp only [mbox, fcs, il, iv] at hrun
      simp only [fcs, iv] at hg
      simp [dvB, hg, hT, hk, filt_t, over]
      simp [hrun]
    · refine ran_in (ck1 := ck) (ck2 := ck3) (ran_mid hR3) (by omega) (by omega)
end
def newF (m : Mod) (pe : Int) (ph ts : List (List Int)) : Flt := ⟨m, pe, ph, [[], [], [], [], []], [], ts, 0, [], [], []⟩
def newOk (m : Mod) (pe : Int) (ph ts : List (List Int)) : Bool := modRight m && tokRight m ts && right pe ph && m.lays.all fun l => !decide (ph.length < l.exps.length)
def startF (m : Mod) (pe : Int) (ph ts : List (List Int)) : Flt := comeP (beginP (newF m pe ph ts))
theorem new1_ret (l : Lay) (pe : Int) (ph : List (List Int)) : RetT cfg 43 [layV l, .pr [.i .i64 pe, gl ph]] (bv (decide (ph.length < l.exps.length))) := by
  refine RetT.of ?_
  rw [runL_pf (fn := f43) rfl rfl]
  by_cases c : ph.length < l.exps.length
  · have c' : ((l.exps.length : Int) > ph.length) := by omega
    simp [layV, gl, c]
  · simp [layV, gl, c]
theorem newc_ret (m : Mod) (pe : Int) (ph : List (List Int)) (h : FewM m) : RetT cfg 42 [.t (laysT m), .fn 43 [.pr [.i .i64 pe, gl ph]]] (bv (!(m.lays.all fun l => !decide (ph.length < l.exps.length)))) := by
  rw [List.not_all_eq_any_not]
  refine ctf_run (ix := 78) rfl rfl rfl rfl (fun _ => rfl) ?_
  refine ixf_run (ag := true) (sz := 3) layT _ layV rfl rfl (by simp [layT]) (by simp [layT, layV]) h.1 ?_
  intro l hl s k hs
  exact ⟨s.ck, by rw [callEv_cl (C := cfg) (new1_ret l pe ph) rfl rfl rfl s k (by simp [puresOf, pureOf, layV, treesOf, treeOf]), hs, Bool.not_not]; rfl⟩
def v0 : Vs := ⟨.nl, .nl, .nl, .nl, .nl, .nl, .nl, .nl, .nl⟩
theorem v0_ok (m : Mod) (pe : Int) (ph ts : List (List Int)) : VsOk (newF m pe ph ts) v0 := ⟨.inr ⟨rfl, rfl⟩, .inr ⟨rfl, rfl⟩, .inr ⟨rfl, rfl⟩, .inr ⟨rfl, rfl⟩, .inr ⟨rfl, rfl⟩, .inr ⟨rfl, rfl⟩, .inr ⟨rfl, rfl⟩⟩
theorem new_good {m : Mod} {pe : Int} {ph ts : List (List Int)} (hm : FewM m) (ht : Few ts) (hp : ph.length ≤ 1000000 ∧ ∀ r ∈ ph, r.length ≤ 100000) (hb : newOk m pe ph ts = true) (h : HP) (ck : Nat) : ∃ h' ck' cf ca cb, runL cfg 17 [modV m, mapV pe ph, .t (gl ts)] h ck = some (.tu [.pt ⟨34, cf, 5⟩ 15 0 0, iv 0], h', ck') ∧ FlS h' ck' cf ca cb (startF m pe ph ts) ∧ Ok 0 (startF m pe ph ts) ∧ ck ≤ cf ∧ ck ≤ ca ∧ ck ≤ cb ∧ ck ≤ ck' ∧ ∀ q, q.c < ck → h'.get q = h.get q := by
  have h1 := fun s k => callEv_tr (C := cfg) (mod_ret m hm) rfl rfl rfl s k
  have h2 := fun s k => callEv_tr (C := cfg) (tok_ret m ts ht) rfl rfl rfl s k
  have h3 := fun s k => callEv_tr (C := cfg) (pright_ret pe ph hp.1 (fun r hr => by have := hp.2 r hr; omega)) rfl rfl rfl s k
  have h4 := fun s k => callEv_fn (C := cfg) (caps0 := [.pt ⟨4, ck, 1⟩ 2 0 0]) (newc_ret m pe ph hm) rfl rfl rfl s k
  have h5 := fun hp => callQ_tr (C := cfg) (RetO.tree (clone2_ret (ts.map fun r => [il r]) (by simp) (by simpa using ht.1))) rfl hp
  have hb0 := hb
  unfold newOk at hb
  simp only [Bool.and_eq_true] at hb
  obtain ⟨⟨⟨b1, b2⟩, b3⟩, b4⟩ := hb
  have hmr := b1
  have htr := b2
  simp only [modRight, Bool.and_eq_true, decide_eq_true_eq] at hmr
  simp only [tokRight, Bool.and_eq_true, decide_eq_true_eq] at htr
  have hlt : (newF m pe ph ts).at_ < (newF m pe ph ts).m.lays.length := by show 0 < m.lays.length; omega
  have hF0 : Fit0 (newF m pe ph ts) := ⟨hm, ht, by show ts.length ≤ 10000; omega, hp, by simp [newF]⟩
  have hB0 : FlB ((⟨34, ck + 1 + 1, 5⟩, .box 88 (fcs (newF m pe ph ts) v0)) :: (⟨4, ck, 1⟩, .box 50 [iv pe, .t (gl ph)]) :: (⟨3, ck, 0⟩, .box 41 [iv m.dim, .t (laysT m)]) :: h) (ck + 1 + 1) (newF m pe ph ts) v0 := ⟨by simp [HP.get], v0_ok _ _ _ _⟩
  obtain ⟨ha, ka, va, ca, cb, ra, la, fa, wa, ga⟩ := begin_run (ck := ck + 1 + 1 + 1 + 1) hB0 hF0 (by omega)
  obtain ⟨wr, w1, w2, w3, w4⟩ := wa hlt
  have hOb : Ok 0 (beginP (newF m pe ph ts)) := beginP_ok hF0 (by simp [newF]) (by simp [newF]) (by simp [newF]) rfl
  have hSa : FlS ha ka (ck + 1 + 1) ca cb (beginP (newF m pe ph ts)) := ⟨va, fa, by omega, w2, w4, fun _ => wr⟩
  obtain ⟨hc, kc, cc, cd, rc, sc, oc, nc⟩ := come_run (ck := ka + 1 + 1 + 1) (fls_le hSa (by omega)) hOb
  have q1 := fun e k => callEv_h (C := cfg) (s := ⟨e, _, ck + 1 + 1 + 1⟩) rfl ra k
  have q2 := fun e k => callEv_h (C := cfg) (s := ⟨e, _, ka + 1 + 1⟩) rfl rc k
  refine ⟨hc, kc + 3, ck + 1 + 1, cc, cd, ?_, fls_le sc (by omega), oc, by omega, ?_, ?_, by have := nc.le; omega, fun q hq => ?_⟩
  · rw [runL_pf (fn := f17) rfl rfl]
    simp only [newF, v0, fcs, modV, mapV, gl, iv, bv, laysT, il, b1, b2, b3, b4, Int.natCast_zero] at h1 h2 h3 h4 h5 q1 q2
    simp [modV, mapV, laysT, gl, h1, h2, h3, h4, h5, filt_t, capsOf, capOf, treesOf, treeOf, buildV, cells, over, q1, q2]

  · rcases nc.ca with e | e <;> omega
  · rcases nc.cb with e | e <;> omega
  · rw [nc.fr q (by omega) (by rintro rfl; simp at hq; omega) (by rintro rfl; simp at hq; omega) (by rintro rfl; simp at hq; omega), ga q (by omega) (by rintro rfl; simp at hq; omega), get_new (by omega), get_new hq, get_new hq]
section
variable {N : Nat}
theorem askS_run {h : HP} {ck cf ca cb : Nat} {F : Flt} (hS : FlS h ck cf ca cb F) (hO : Ok N F) : ∃ h' ck', runL cfg 20 [.pt ⟨34, cf, 5⟩ 15 0 0] h ck = some (.tu [], h', ck') ∧ FlS h' ck' cf ca cb (askP F) ∧ Ok N (askP F) ∧ Ran h ck cf ca cb h' ck' ca cb := by
  obtain ⟨v, hB, l1, l2, l3, hr⟩ := hS
  by_cases c : F.at_ < F.m.lays.length
  · obtain ⟨h', ck', vb, hrun, hle, hB', hfr⟩ := ask_run hB (hO.f1 c) l1 l3 (fun hc => by obtain ⟨r1, r2, r3, r4, r5⟩ := hr hc; exact ⟨r1, r3, r5⟩)
    obtain ⟨e1, e2, e3, e4, e5, e6, e7, e8, e9⟩ := askP_m F
    refine ⟨h', ck', hrun, ⟨_, hB', by omega, by omega, by omega, fun hc => ?_⟩, askP_ok hO, Ran.to hle hfr⟩
    obtain ⟨r1, r2, r3, r4, r5⟩ := hr c
    exact ⟨by rw [e7]; exact r1, by rw [e7]; exact r2, by rw [e7]; exact r3, by rw [hfr _ l2 (by simp), e8]; exact r4, by rw [hfr _ l3 (by simp), e9]; exact r5⟩
  · have hg := hB.1
    have e : askP F = F := by unfold askP; rw [if_neg c]
    rw [e]
    refine ⟨h, ck + 1, ?_, ⟨v, hB, by omega, by omega, by omega, hr⟩, hO, Ran.to (by omega) fun _ _ _ => rfl⟩
    have c' : F.m.lays.length ≤ F.at_ := by omega
    simp only [fcs, laysT] at hg
    rw [runL_pf (fn := f20) rfl rfl]
    simp [hg, c', filt_t]
structure Act where
  k : Int
  n : Int
  m : Int
end
section
variable {N : Nat}
theorem fls_box {h : HP} {ck cf ca cb : Nat} {F : Flt} (hS : FlS h ck cf ca cb F) {s c o ck' : Nat} (h0 : ck ≤ c) (ob : Ob) (hle : ck ≤ ck') : FlS ((⟨s, c, o⟩, ob) :: h) ck' cf ca cb F := fls_fr hS hle (fun q hq => get_new (by omega))
end
def wAsk : List UInt8 := [97, 115, 107]
def wDeliver : List UInt8 := [100, 101, 108, 105, 118, 101, 114]
def wDrop : List UInt8 := [100, 114, 111, 112]
def wTwice : List UInt8 := [116, 119, 105, 99, 101]
def wAdd : List UInt8 := [97, 100, 100]
def wRetire : List UInt8 := [114, 101, 116, 105, 114, 101]
def wBag : List UInt8 := [98, 97, 103]
def wDone : List UInt8 := [100, 111, 110, 101]
def is (w : List UInt8) (l : List Int) (x : List UInt8) (n : Nat) : Bool := decide (w = x) && decide (l.length = n)
def cmdP (F : Flt) (w : List UInt8) (l : List Int) : Flt × List UInt8 :=
  if is w l wAsk 0 then (askP F, toldP 0 [])
  else if is w l wDeliver 1 then ((delvP F (l.getD 0 0)).1, toldP (delvP F (l.getD 0 0)).2 [])
  else if is w l wDrop 1 then ((dropP F (l.getD 0 0)).1, toldP (dropP F (l.getD 0 0)).2 [])
  else if is w l wTwice 1 then ((twiceP F (l.getD 0 0)).1, toldP (twiceP F (l.getD 0 0)).2 [])
  else if is w l wAdd 2 then ((addP F (l.getD 0 0) (l.getD 1 0)).1, toldP (addP F (l.getD 0 0) (l.getD 1 0)).2 [])
  else if is w l wRetire 2 then ((retP F (l.getD 0 0) (l.getD 1 0)).1, toldP (retP F (l.getD 0 0) (l.getD 1 0)).2 [])
  else if is w l wBag 0 then (F, toldP 0 [(F.bag.length : Int), (workedP F : Int)])
  else if is w l wDone 0 then (F, toldP 0 (doneP F).1.flatten)
  else (F, toldP 2 [])
def lineP (F : Flt) (s : List UInt8) : Flt × List UInt8 := match numsP (spl 32 s).tail with
  | none => (F, toldP 2 [])
  | some l => cmdP F ((spl 32 s).headD []) l
theorem dec_last (u : Nat) : ∃ p, Lib.decDigits u = p ++ [UInt8.ofNat (48 + u % 10)] ∧ (10 ≤ u → p = Lib.decDigits (u / 10)) ∧ (u < 10 → p = []) := by
  by_cases h : u < 10
  · exact ⟨[], by rw [Lib.decDigits_one h, Nat.mod_eq_of_lt h]; rfl, fun h' => by omega, fun _ => rfl⟩
  · refine ⟨Lib.decDigits (u / 10), ?_, fun _ => rfl, fun h' => by omega⟩
    rw [Lib.decDigits, dif_neg h]
theorem key_is {w x : List UInt8} {b : UInt8} {n d : Nat} (hd : d < 10) (hb : 58 ≤ b.toNat) : w ++ Lib.itoa (n : Int) = (x ++ [b]) ++ [UInt8.ofNat (48 + d)] ↔ w = x ++ [b] ∧ n = d := by
  rw [itoa_pos (by omega), Int.toNat_natCast]
  constructor
  · intro h
    obtain ⟨p, h1, h2, h3⟩ := dec_last n
    rw [h1, ← List.append_assoc] at h
    have h4 := List.append_inj' h rfl
    have h5 : UInt8.ofNat (48 + n % 10) = UInt8.ofNat (48 + d) := by simpa using h4.2
    have h6 := congrArg UInt8.toNat h5
    rw [dig_nat (by omega), dig_nat hd] at h6
    by_cases hn : n < 10
    · rw [h3 hn, List.append_nil] at h4
      exact ⟨h4.1, by omega⟩
    · exfalso
      rw [h2 (by omega)] at h4
      obtain ⟨q, g1, _, _⟩ := dec_last (n / 10)
      rw [g1, ← List.append_assoc] at h4
      have g2 := List.append_inj' h4.1 rfl
      have g3 : UInt8.ofNat (48 + n / 10 % 10) = b := by simpa using g2.2
      have g4 := congrArg UInt8.toNat g3
      rw [dig_nat (by omega)] at g4
      omega
  · rintro ⟨rfl, rfl⟩
    rw [Lib.decDigits_one hd]
theorem key_eq {w x : List UInt8} {l : List Int} {b : UInt8} {n : Nat} (hd : n < 10) (hb : 58 ≤ b.toNat) : (w ++ Lib.itoa (l.length : Int) == (x ++ [b]) ++ [UInt8.ofNat (48 + n)]) = is w l (x ++ [b]) n := by
  unfold is
  have h := key_is (w := w) (x := x) (b := b) (n := l.length) hd hb
  rw [Bool.eq_iff_iff, beq_iff_eq, h]
  simp
theorem key_ask (w : List UInt8) (l : List Int) : (w ++ Lib.itoa (l.length : Int) == [97, 115, 107, 48]) = is w l wAsk 0 := key_eq (x := [97, 115]) (b := 107) (n := 0) (by decide) (by decide)
theorem key_deliver (w : List UInt8) (l : List Int) : (w ++ Lib.itoa (l.length : Int) == [100, 101, 108, 105, 118, 101, 114, 49]) = is w l wDeliver 1 := key_eq (x := [100, 101, 108, 105, 118, 101]) (b := 114) (n := 1) (by decide) (by decide)
theorem key_drop (w : List UInt8) (l : List Int) : (w ++ Lib.itoa (l.length : Int) == [100, 114, 111, 112, 49]) = is w l wDrop 1 := key_eq (x := [100, 114, 111]) (b := 112) (n := 1) (by decide) (by decide)
theorem key_twice (w : List UInt8) (l : List Int) : (w ++ Lib.itoa (l.length : Int) == [116, 119, 105, 99, 101, 49]) = is w l wTwice 1 := key_eq (x := [116, 119, 105, 99]) (b := 101) (n := 1) (by decide) (by decide)
theorem key_add (w : List UInt8) (l : List Int) : (w ++ Lib.itoa (l.length : Int) == [97, 100, 100, 50]) = is w l wAdd 2 := key_eq (x := [97, 100]) (b := 100) (n := 2) (by decide) (by decide)
theorem key_retire (w : List UInt8) (l : List Int) : (w ++ Lib.itoa (l.length : Int) == [114, 101, 116, 105, 114, 101, 50]) = is w l wRetire 2 := key_eq (x := [114, 101, 116, 105, 114]) (b := 101) (n := 2) (by decide) (by decide)
theorem key_bag (w : List UInt8) (l : List Int) : (w ++ Lib.itoa (l.length : Int) == [98, 97, 103, 48]) = is w l wBag 0 := key_eq (x := [98, 97]) (b := 103) (n := 0) (by decide) (by decide)
theorem key_done (w : List UInt8) (l : List Int) : (w ++ Lib.itoa (l.length : Int) == [100, 111, 110, 101, 48]) = is w l wDone 0 := key_eq (x := [100, 111, 110]) (b := 101) (n := 0) (by decide) (by decide)
theorem is_w {w x : List UInt8} {l : List Int} {n : Nat} (h : is w l x n = true) : w = x ∧ l.length = n := by
  unfold is at h; simpa using h
theorem delvP_code (F : Flt) (i : Int) : (delvP F i).2 = 0 ∨ (delvP F i).2 = 4 := by unfold delvP; split <;> simp
theorem dropP_code (F : Flt) (i : Int) : (dropP F i).2 = 0 ∨ (dropP F i).2 = 4 := by unfold dropP; simp only; split <;> simp
theorem twiceP_code (F : Flt) (i : Int) : (twiceP F i).2 = 0 ∨ (twiceP F i).2 = 4 := by unfold twiceP; split <;> simp
theorem addP_code (F : Flt) (x n : Int) : 0 ≤ (addP F x n).2 ∧ (addP F x n).2 ≤ 100 := by
  unfold addP padd; simp only
  (repeat' split) <;> simp
theorem retP_code (F : Flt) (x n : Int) : 0 ≤ (retP F x n).2 ∧ (retP F x n).2 ≤ 100 := by
  unfold retP pret; simp only
  (repeat' split) <;> simp
section
variable {N : Nat}
theorem spl_hd (c : UInt8) (s : List UInt8) : spl c s = (spl c s).headD [] :: (spl c s).tail := by
  cases h : spl c s with
  | nil => exact absurd h (spl_ne c s)
  | cons x l => rfl
structure LineOk (N : Nat) (h : HP) (ck cf ca cb : Nat) (r : Flt × List UInt8) (E : Option (V × HP × Nat)) : Prop where
  ok : ∃ h' ck' ca' cb', E = some (.t (.s r.2), h', ck') ∧ FlS h' ck' cf ca' cb' r.1 ∧ Ok (N + 1) r.1 ∧ Ran h ck cf ca cb h' ck' ca' cb'
theorem line_bad {h : HP} {ck cf ca cb : Nat} {F : Flt} {s : List UInt8} (hS : FlS h ck cf ca cb F) (hO : Ok N F) (hs : s.length ≤ 100000) (hn : numsP (spl 32 s).tail = none) : LineOk N h ck cf ca cb (F, toldP 2 []) (runL cfg 33 [.pt ⟨34, cf, 5⟩ 15 0 0, .t (.s s)] h ck) := by
  have q1 := fun s' k => callEv_tr (C := cfg) (split_ret s 32 (by omega)) rfl rfl rfl s' k
  have hw := spl_hd 32 s
  have hle := spl_le (c := 32) (s := s)
  have q2 := fun s' k => callEv_tr (C := cfg) (snums_ret (spl 32 s).tail (by rw [List.length_tail]; omega) (fun w hm => by have := spl_mem (List.mem_of_mem_tail hm); omega)) rfl rfl rfl s' k
  rw [hn] at q2
  have q3 := fun s' k => callEv_rd (C := cfg) (args := [iv 2, .nl]) (told_ret 2 [] ⟨by omega, by omega⟩ (by simp) (by simp)) rfl rfl (rdA_t (rdA_v (.inr ⟨rfl, rfl⟩) rdA_nil)) s' k
  rw [hw] at q1
  generalize (spl 32 s).headD [] = w at *
  generalize (spl 32 s).tail = ws at *
  simp only [sl, slc, numsV, il, iv, bv] at q1 q2 q3
  have h1 : (1 : Int) ≤ (ws.length : Int) + 1 := by omega
  have htk : List.take ws.length (ws.map fun s => [T.s s]) = ws.map fun s => [T.s s] := List.take_of_length_le (by simp)
  obtain ⟨k, hE, hk⟩ : ∃ k, runL cfg 33 [.pt ⟨34, cf, 5⟩ 15 0 0, .t (.s s)] h ck = some (.t (.s (toldP 2 [])), h, k) ∧ ck ≤ k := by
    rw [runL_pf (fn := f33) rfl rfl]
    simp [q1, q2, q3, filt_tt, h1, htk]
    omega
  exact ⟨h, k, ca, cb, hE, fls_le hS hk, hO.up, Ran.to hk (fun q _ _ => rfl)⟩
abbrev lnC : Pc := .block 0 (.seq f33r6 (.cond (.tmp 26) (.seq f33r7 (.seq f33r8 .ret)) (.seq f33r9 (.cond (.tmp 31) (.seq f33r10 .ret) (.seq f33r11 (.cond (.tmp 39) (.seq f33r12 .ret) (.seq f33r13 (.cond (.tmp 47) (.seq f33r14 .ret) (.seq f33r15 (.cond (.tmp 55) (.seq f33r16 .ret) (.seq f33r17 (.cond (.tmp 66) (.seq f33r18 .ret) (.seq f33r19 (.cond (.tmp 77) (.seq f33r20 .ret) (.seq f33r21 (.cond (.tmp 86) (.seq f33r22 .ret) .skip))))))))))))))))
abbrev lnT : Pc := .seq lnC (.seq f33r23 .ret)
def lnR (E : Option (Ex × St)) : Option (V × HP × Nat) := match E with
  | some (.ret, s) => some (s.env.get 4, s.hp, s.ck)
  | _ => none
theorem line_good {h : HP} {ck cf : Nat} {s : List UInt8} {l : List Int} (hs : s.length ≤ 100000) (hn : numsP (spl 32 s).tail = some l) (hl : l.length ≤ 100000) : ∃ k, ck ≤ k ∧ ∀ y, lnR (evL cfg lnT ⟨[(0, .pt ⟨34, cf, 5⟩ 15 0 0), (6, .t (il l)), (25, .t (.s ((spl 32 s).headD [] ++ Lib.itoa (l.length : Int))))], h, k⟩) = some y → runL cfg 33 [.pt ⟨34, cf, 5⟩ 15 0 0, .t (.s s)] h ck = some y := by
  have q1 := fun s' k => callEv_tr (C := cfg) (split_ret s 32 (by omega)) rfl rfl rfl s' k
  have hw := spl_hd 32 s
  have hle := spl_le (c := 32) (s := s)
  have q2 := fun s' k => callEv_tr (C := cfg) (snums_ret (spl 32 s).tail (by rw [List.length_tail]; omega) (fun w hm => by have := spl_mem (List.mem_of_mem_tail hm); omega)) rfl rfl rfl s' k
  rw [hn] at q2
  have q3 := fun hp => callQ_tr (C := cfg) (itoa_ret (l.length : Int) (by omega) (by omega)) rfl hp
  have hlen := Lib.itoa_length_le (l.length : Int) (by omega) (by omega)
  have hwl : ((spl 32 s).headD []).length ≤ 100000 := by
    have hm : (spl 32 s).headD [] ∈ spl 32 s := by rw [hw]; simp
    have := spl_mem hm
    omega
  rw [hw] at q1
  generalize (spl 32 s).headD [] = w at *
  generalize (spl 32 s).tail = ws at *
  simp only [sl, slc, numsV, il, iv, bv] at q1 q2 q3
  have h1 : (1 : Int) ≤ (ws.length : Int) + 1 := by omega
  have htk : List.take ws.length (ws.map fun s => [T.s s]) = ws.map fun s => [T.s s] := List.take_of_length_le (by simp)
  generalize Lib.itoa (l.length : Int) = z at *
  have hb : ¬ i64max < (w.length : Int) + z.length := by unfold i64max; omega
  refine ⟨ck + 1 + 1 + 1 + 1 + 1, by omega, fun y hy => ?_⟩
  rw [runL_pf (fn := f33) rfl rfl]
  simp [-evL_block, q1, q2, q3, filt_tt, h1, htk, hb]
  unfold lnT at hy
  rw [evL_seq] at hy
  simp only [iv, il] at hy
  revert hy
  generalize thenC _ _ = E
  intro hy
  unfold lnR at hy
  split at hy
  · exact hy
  · cases hy
end
section
variable {N : Nat}
theorem told_call (e : Int) (he : 0 ≤ e ∧ e ≤ 100) (s : St) (k : Key) : callEv cfg (runL cfg) 62 [iv e, .nl] s k = some (.t (.s (toldP e [])), s.hp, s.ck) :=
  callEv_rd (C := cfg) (args := [iv e, .nl]) (told_ret e [] ⟨by omega, by omega⟩ (by simp) (by simp)) rfl rfl (rdA_t (rdA_v (.inr ⟨rfl, rfl⟩) rdA_nil)) s k
abbrev lnS (cf : Nat) (l : List Int) (K : List UInt8) (h : HP) (k : Nat) : St := ⟨[(0, .pt ⟨34, cf, 5⟩ 15 0 0), (6, .t (il l)), (25, .t (.s K))], h, k⟩
theorem lnAsk {h : HP} {k cf ca cb : Nat} {F : Flt} {K : List UInt8}  (k0 : (K == [97, 115, 107, 48]) = true) (hS : FlS h k cf ca cb F) (hO : Ok N F) (hN : N ≤ 700000) : LineOk N h k cf ca cb (askP F, toldP 0 []) (lnR (evL cfg lnT (lnS cf [] K h k))) := by
  have hS1 := fls_le hS (ck' := k + 1 + 1) (by omega)
  obtain ⟨h', k', r, s1, o1, R⟩ := askS_run  hS1 hO
  have q := fun e kk => callEv_h (C := cfg) (s := ⟨e, h, k + 1⟩) rfl r kk
  have t := told_call 0 (by omega)
  simp only [iv] at q t
  obtain ⟨kq, hE, hk⟩ : ∃ kq, lnR (evL cfg lnT (lnS cf [] K h k)) = some (.t (.s (toldP 0 [])), h', kq) ∧ k' ≤ kq := by
    generalize toldP 0 [] = r0 at *
    simp [lnR, k0, q, t, filt_tt, il]
    try omega
  exact ⟨h', kq, ca, cb, hE, fls_le s1 hk, o1.up, ran_in R (by omega) hk⟩
theorem lnDeliver {h : HP} {k cf ca cb : Nat} {F : Flt} {K : List UInt8} (x : Int) (k0 : (K == [97, 115, 107, 48]) = false) (k1 : (K == [100, 101, 108, 105, 118, 101, 114, 49]) = true) (hS : FlS h k cf ca cb F) (hO : Ok N F) (hN : N ≤ 700000) : LineOk N h k cf ca cb ((delvP F x).1, toldP (delvP F x).2 []) (lnR (evL cfg lnT (lnS cf [x] K h k))) := by
  have hS1 := fls_le hS (ck' := k + 1 + 1 + 1) (by omega)
  obtain ⟨h', k', ca', cb', r, s1, o1, R⟩ := deliver_run x hS1 hO (by omega)
  have q := fun e kk => callEv_h (C := cfg) (s := ⟨e, h, k + 1 + 1⟩) rfl r kk
  have t := told_call (delvP F x).2 (by rcases (delvP_code F x) with e | e <;> rw [e] <;> omega)
  simp only [iv] at q t
  obtain ⟨kq, hE, hk⟩ : ∃ kq, lnR (evL cfg lnT (lnS cf [x] K h k)) = some (.t (.s (toldP (delvP F x).2 [])), h', kq) ∧ k' ≤ kq := by
    generalize delvP F x = r0 at *
    simp [lnR, k0, k1, q, t, filt_tt, il]
    try omega
  exact ⟨h', kq, ca', cb', hE, fls_le s1 hk, o1, ran_in R (by omega) hk⟩
theorem lnDrop {h : HP} {k cf ca cb : Nat} {F : Flt} {K : List UInt8} (x : Int) (k0 : (K == [97, 115, 107, 48]) = false) (k1 : (K == [100, 101, 108, 105, 118, 101, 114, 49]) = false) (k2 : (K == [100, 114, 111, 112, 49]) = true) (hS : FlS h k cf ca cb F) (hO : Ok N F) (hN : N ≤ 700000) : LineOk N h k cf ca cb ((dropP F x).1, toldP (dropP F x).2 []) (lnR (evL cfg lnT (lnS cf [x] K h k))) := by
  have hS1 := fls_le hS (ck' := k + 1 + 1 + 1 + 1) (by omega)
  obtain ⟨h', k', r, s1, o1, R⟩ := drop_run x hS1 hO
  have q := fun e kk => callEv_h (C := cfg) (s := ⟨e, h, k + 1 + 1 + 1⟩) rfl r kk
  have t := told_call (dropP F x).2 (by rcases (dropP_code F x) with e | e <;> rw [e] <;> omega)
  simp only [iv] at q t
  obtain ⟨kq, hE, hk⟩ : ∃ kq, lnR (evL cfg lnT (lnS cf [x] K h k)) = some (.t (.s (toldP (dropP F x).2 [])), h', kq) ∧ k' ≤ kq := by
    generalize dropP F x = r0 at *
    simp [lnR, k0, k1, k2, q, t, filt_tt, il]
    try omega
  exact ⟨h', kq, ca, cb, hE, fls_le s1 hk, o1.up, ran_in R (by omega) hk⟩
theorem lnTwice {h : HP} {k cf ca cb : Nat} {F : Flt} {K : List UInt8} (x : Int) (k0 : (K == [97, 115, 107, 48]) = false) (k1 : (K == [100, 101, 108, 105, 118, 101, 114, 49]) = false) (k2 : (K == [100, 114, 111, 112, 49]) = false) (k3 : (K == [116, 119, 105, 99, 101, 49]) = true) (hS : FlS h k cf ca cb F) (hO : Ok N F) (hN : N ≤ 700000) : LineOk N h k cf ca cb ((twiceP F x).1, toldP (twiceP F x).2 []) (lnR (evL cfg lnT (lnS cf [x] K h k))) := by
  have hS1 := fls_le hS (ck' := k + 1 + 1 + 1 + 1 + 1) (by omega)
  obtain ⟨h', k', r, s1, o1, R⟩ := twice_run x hS1 hO
  have q := fun e kk => callEv_h (C := cfg) (s := ⟨e, h, k + 1 + 1 + 1 + 1⟩) rfl r kk
  have t := told_call (twiceP F x).2 (by rcases (twiceP_code F x) with e | e <;> rw [e] <;> omega)
  simp only [iv] at q t
  obtain ⟨kq, hE, hk⟩ : ∃ kq, lnR (evL cfg lnT (lnS cf [x] K h k)) = some (.t (.s (toldP (twiceP F x).2 [])), h', kq) ∧ k' ≤ kq := by
    generalize twiceP F x = r0 at *
    simp [lnR, k0, k1, k2, k3, q, t, filt_tt, il]
    try omega
  exact ⟨h', kq, ca, cb, hE, fls_le s1 hk, o1.up, ran_in R (by omega) hk⟩
theorem lnAdd {h : HP} {k cf ca cb : Nat} {F : Flt} {K : List UInt8} (x y : Int) (k0 : (K == [97, 115, 107, 48]) = false) (k1 : (K == [100, 101, 108, 105, 118, 101, 114, 49]) = false) (k2 : (K == [100, 114, 111, 112, 49]) = false) (k3 : (K == [116, 119, 105, 99, 101, 49]) = false) (k4 : (K == [97, 100, 100, 50]) = true) (hS : FlS h k cf ca cb F) (hO : Ok N F) (hN : N ≤ 700000) : LineOk N h k cf ca cb ((addP F x y).1, toldP (addP F x y).2 []) (lnR (evL cfg lnT (lnS cf [x, y] K h k))) := by
  have hS1 := fls_le hS (ck' := k + 1 + 1 + 1 + 1 + 1 + 1) (by omega)
  obtain ⟨h', k', r, s1, o1, R⟩ := fadd_run x y hS1 hO
  have q := fun e kk => callEv_h (C := cfg) (s := ⟨e, h, k + 1 + 1 + 1 + 1 + 1⟩) rfl r kk
  have t := told_call (addP F x y).2 (addP_code F x y)
  simp only [iv] at q t
  obtain ⟨kq, hE, hk⟩ : ∃ kq, lnR (evL cfg lnT (lnS cf [x, y] K h k)) = some (.t (.s (toldP (addP F x y).2 [])), h', kq) ∧ k' ≤ kq := by
    generalize addP F x y = r0 at *
    simp [lnR, k0, k1, k2, k3, k4, q, t, filt_tt, il]
    try omega
  exact ⟨h', kq, ca, cb, hE, fls_le s1 hk, o1.up, ran_in R (by omega) hk⟩
theorem lnRetire {h : HP} {k cf ca cb : Nat} {F : Flt} {K : List UInt8} (x y : Int) (k0 : (K == [97, 115, 107, 48]) = false) (k1 : (K == [100, 101, 108, 105, 118, 101, 114, 49]) = false) (k2 : (K == [100, 114, 111, 112, 49]) = false) (k3 : (K == [116, 119, 105, 99, 101, 49]) = false) (k4 : (K == [97, 100, 100, 50]) = false) (k5 : (K == [114, 101, 116, 105, 114, 101, 50]) = true) (hS : FlS h k cf ca cb F) (hO : Ok N F) (hN : N ≤ 700000) : LineOk N h k cf ca cb ((retP F x y).1, toldP (retP F x y).2 []) (lnR (evL cfg lnT (lnS cf [x, y] K h k))) := by
  have hS1 := fls_le hS (ck' := k + 1 + 1 + 1 + 1 + 1 + 1 + 1) (by omega)
  obtain ⟨h', k', r, s1, o1, R⟩ := fret_run x y hS1 hO
  have q := fun e kk => callEv_h (C := cfg) (s := ⟨e, h, k + 1 + 1 + 1 + 1 + 1 + 1⟩) rfl r kk
  have t := told_call (retP F x y).2 (retP_code F x y)
  simp only [iv] at q t
  obtain ⟨kq, hE, hk⟩ : ∃ kq, lnR (evL cfg lnT (lnS cf [x, y] K h k)) = some (.t (.s (toldP (retP F x y).2 [])), h', kq) ∧ k' ≤ kq := by
    generalize retP F x y = r0 at *
    simp [lnR, k0, k1, k2, k3, k4, k5, q, t, filt_tt, il]
    try omega
  exact ⟨h', kq, ca, cb, hE, fls_le s1 hk, o1.up, ran_in R (by omega) hk⟩
end
section
variable {N : Nat}
theorem told_ow (l : List Int) (hl : l.length ≤ 100000) (hn : ∀ n ∈ l, I64 n) (s : St) (k kd : Key) (n : Nat) (hnl : n = l.length) (hg : s.hp.get kd = some (.row 3 1 (cl l) false)) : callEv cfg (runL cfg) 62 [iv 0, .ow kd 1 0 n] s k = some (.t (.s (toldP 0 l)), s.hp, s.ck) := by
  subst hnl
  have hps : puresOf s.hp [iv 0, .ow kd 1 0 l.length] = some [iv 0, .t (il l)] := by
    have ht : List.take l.length (cl l) = cl l := List.take_of_length_le (by simp [cl])
    simp [puresOf, pureOf, treesOf, treeOf, hg, ht, il, cl]
    simpa [cl] using ht
  exact callEv_t (C := cfg) rfl rfl hps (told_ret 0 l ⟨by omega, by omega⟩ hl hn) (.inl rfl)
theorem lnNone {h : HP} {k cf ca cb : Nat} {F : Flt} {K : List UInt8} {l : List Int} (k0 : (K == [97, 115, 107, 48]) = false) (k1 : (K == [100, 101, 108, 105, 118, 101, 114, 49]) = false) (k2 : (K == [100, 114, 111, 112, 49]) = false) (k3 : (K == [116, 119, 105, 99, 101, 49]) = false) (k4 : (K == [97, 100, 100, 50]) = false) (k5 : (K == [114, 101, 116, 105, 114, 101, 50]) = false) (k6 : (K == [98, 97, 103, 48]) = false) (k7 : (K == [100, 111, 110, 101, 48]) = false) (hS : FlS h k cf ca cb F) (hO : Ok N F) : LineOk N h k cf ca cb (F, toldP 2 []) (lnR (evL cfg lnT (lnS cf l K h k))) := by
  have t := told_call 2 (by omega)
  simp only [iv] at t
  obtain ⟨kq, hE, hk⟩ : ∃ kq, lnR (evL cfg lnT (lnS cf l K h k)) = some (.t (.s (toldP 2 [])), h, kq) ∧ k ≤ kq := by
    generalize toldP 2 [] = r0 at *
    simp [lnR, k0, k1, k2, k3, k4, k5, k6, k7, t, filt_tt, il]
    omega
  exact ⟨h, kq, ca, cb, hE, fls_le hS hk, hO.up, Ran.to hk (fun q _ _ => rfl)⟩
theorem worked_le5 {F : Flt} (hO : Ok N F) : workedP F ≤ 5 * N := by
  have := wk_bound hO F.led.length
  unfold wkS at this
  rwa [List.take_length] at this
theorem lnBag {h : HP} {k cf ca cb : Nat} {F : Flt} {K : List UInt8} (k0 : (K == [97, 115, 107, 48]) = false) (k1 : (K == [100, 101, 108, 105, 118, 101, 114, 49]) = false) (k2 : (K == [100, 114, 111, 112, 49]) = false) (k3 : (K == [116, 119, 105, 99, 101, 49]) = false) (k4 : (K == [97, 100, 100, 50]) = false) (k5 : (K == [114, 101, 116, 105, 114, 101, 50]) = false) (k6 : (K == [98, 97, 103, 48]) = true) (hS : FlS h k cf ca cb F) (hO : Ok N F) (hN : N ≤ 700000) : LineOk N h k cf ca cb (F, toldP 0 [(F.bag.length : Int), (workedP F : Int)]) (lnR (evL cfg lnT (lnS cf [] K h k))) := by
  have hS1 := fls_le hS (ck' := k + 1 + 1 + 1 + 1 + 1 + 1 + 1 + 1) (by omega)
  have r := bag_run hS1 hO
  have q := fun e kk => callEv_h (C := cfg) (s := ⟨e, h, k + 1 + 1 + 1 + 1 + 1 + 1 + 1⟩) rfl r kk
  have hS2 := fls_box (fls_box (s := 2) (c := k + 1 + 1 + 1 + 1 + 1 + 1 + 1 + 1) (o := 0) hS1 (Nat.le_refl _) (.row 9 1 [] false) (ck' := k + 1 + 1 + 1 + 1 + 1 + 1 + 1 + 1) (Nat.le_refl _)) (s := 7) (c := k + 1 + 1 + 1 + 1 + 1 + 1 + 1 + 1 + 1) (o := 4) (by omega) (.row 9 1 (slc F.bag) false) (ck' := k + 1 + 1 + 1 + 1 + 1 + 1 + 1 + 1 + 2 + 1 + 1) (by omega)
  obtain ⟨k', r2, l8⟩ := worked_run hS2 hO (by omega)
  have q2 := fun e kk => callEv_h (C := cfg) (s := ⟨e, _, k + 1 + 1 + 1 + 1 + 1 + 1 + 1 + 1 + 2 + 1⟩) rfl r2 kk
  have hwb := worked_le5 hO
  have hbl := hO.f0.bag
  have t := fun e hp kk kd ck => told_ow [(F.bag.length : Int), (workedP F : Int)] (by simp) (by intro n hn; rcases List.mem_cons.1 hn with rfl | hn; exact ⟨by omega, by omega⟩; rcases List.mem_singleton.1 hn with rfl; exact ⟨by omega, by omega⟩) ⟨e, (kd, .row 3 1 (cl [(F.bag.length : Int), (workedP F : Int)]) false) :: hp, ck⟩ kk kd 2 rfl (by simp [HP.get])
  simp only [iv, cl, List.map_cons, List.map_nil] at q q2 t
  obtain ⟨hx, kq, hE, hk, hfr⟩ : ∃ hx kq, lnR (evL cfg lnT (lnS cf [] K h k)) = some (.t (.s (toldP 0 [(F.bag.length : Int), (workedP F : Int)])), hx, kq) ∧ k ≤ kq ∧ ∀ q, q.c < k → hx.get q = h.get q := by
    generalize toldP 0 [(F.bag.length : Int), (workedP F : Int)] = r0 at *
    generalize workedP F = w at *
    generalize slc F.bag = bg at *
    generalize F.bag.length = b at *
    simp [lnR, k0, k1, k2, k3, k4, k5, k6, q, q2, t, filt_tt, il, rowsOf, treesC, treesOf, treeOf, keysOfs, freezeAll]
    exact ⟨_, _, ⟨rfl, rfl⟩, by omega, fun q hq => by rw [get_new (by omega), get_new (by omega), get_new (by omega)]⟩
  exact ⟨hx, kq, ca, cb, hE, fls_fr hS hk hfr, hO.up, Ran.to hk (fun q hq _ => hfr q hq)⟩
theorem done2_run {h : HP} {ck cf ca cb : Nat} {F : Flt} (hS : FlS h ck cf ca cb F) (hO : Ok N F) : ∃ ks ko, (ks = 2 ∨ ks = 19) ∧ runL cfg 28 [.pt ⟨34, cf, 5⟩ 15 0 0] h ck = some (.tu [.ow ⟨ks, ck + 1 + 1, ko⟩ 1 0 (doneP F).1.length, bv (doneP F).2], (⟨ks, ck + 1 + 1, ko⟩, .row 31 1 ((doneP F).1.map fun r => [il r]) false) :: (⟨2, ck, 0⟩, .row 31 1 [] false) :: h, ck + 3) := by
  obtain ⟨v, hB, l1, l2, l3, hr⟩ := hS
  have hg := hB.1
  unfold doneP
  by_cases c : F.at_ < F.m.lays.length
  · rw [if_pos c]
    refine ⟨2, 0, .inl rfl, ?_⟩
    rw [runL_pf (fn := f28) rfl rfl]
    simp only [fcs, laysT] at hg
    simp [hg, c, filt_t]
  · rw [if_neg c]
    have hc := fun s k => callEv_tro (C := cfg) (clone2_ret (F.toks.map fun r => [il r]) (by simp) (by simpa using hO.f0.toks.1)) rfl rfl rfl s k
    refine ⟨19, 4, .inr rfl, ?_⟩
    rw [runL_pf (fn := f28) rfl rfl]
    simp only [fcs, laysT, gl] at hg
    simp only [List.length_map, il] at hc
    simp [hg, c, filt_t, hc]
abbrev dnH (kd : Key) (ts : List (List Int)) (c c2 : Nat) (o : Nat) (acc : List Int) (h : HP) : HP := (kd, .row 31 1 (ts.map fun r => [il r]) false) :: (⟨2, c2, 0⟩, .row 31 1 [] false) :: (⟨3, c, o⟩, .row 3 1 (cl acc) false) :: h
def dnI (kd : Key) (ts : List (List Int)) (c0 c2 : Nat) (h : HP) (i : Nat) (s : St) : Prop := ∃ c o ck acc, c0 ≤ c ∧ c < ck ∧ acc = (ts.take i).flatten ∧ s = ⟨[(3, .ow ⟨3, c, o⟩ 1 0 acc.length), (13, .ow kd 1 0 ts.length), (14, iv ts.length), (15, iv (i : Int))], dnH kd ts c c2 o acc h, ck⟩
def dnQ (kd : Key) (ts : List (List Int)) (c0 c2 : Nat) (h : HP) (E : Option (Ex × St)) : Prop := ∃ c o ck e, c0 ≤ c ∧ c < ck ∧ E = some (.exit 0, ⟨(3, .ow ⟨3, c, o⟩ 1 0 ts.flatten.length) :: e, dnH kd ts c c2 o ts.flatten h, ck⟩)
theorem dn_loop {kd : Key} {ts : List (List Int)} {c0 c2 ck o : Nat} {h : HP} (hks : kd.s = 2 ∨ kd.s = 19) (hl : ts.flatten.length ≤ 100000) (ht : ts.length ≤ 1000000) (hck : c0 < ck) : dnQ kd ts c0 c2 h (evL cfg (.loop f64l0) ⟨[(3, .ow ⟨3, c0, o⟩ 1 0 0), (13, .ow kd 1 0 ts.length), (14, iv ts.length), (15, iv 0)], dnH kd ts c0 c2 o [] h, ck⟩) := by
  refine loop_q ts.length (dnI kd ts c0 c2 h) ?_ ?_ _ ⟨c0, o, ck, [], Nat.le_refl _, hck, by simp, rfl⟩
  · rintro i s hi ⟨c, o, ck, acc, h1, h2, h3, rfl⟩
    have hw : IntKind.i64.wrap ((i : Int) + 1) = (i : Int) + 1 := wrap_id (by omega) (by omega)
    have hT : (ts.take (i + 1)).flatten = acc ++ ts[i] := by rw [List.take_succ_eq_append_getElem hi, List.flatten_append, ← h3]; simp
    have hle : acc.length + ts[i].length ≤ 100000 := by
      have e : ts.flatten = (ts.take (i + 1)).flatten ++ (ts.drop (i + 1)).flatten := by rw [← List.flatten_append, List.take_append_drop]
      have := congrArg List.length e
      rw [hT] at this
      simp at this hl
      omega
    have hb : (acc.length + ts[i].length) * 8 ≤ 140737488355328 := by omega
    have e1 : ∀ c o, ¬ (kd = (⟨3, c, o⟩ : Key)) := by rintro c o rfl; rcases hks with e | e <;> cases e
    have e2 : ∀ c o, ¬ ((⟨3, c, o⟩ : Key) = kd) := fun c o e => e1 c o e.symm
    generalize hr : ts[i] = r at *
    have hg : ts[i]? = some r := by rw [List.getElem?_eq_getElem hi, hr]
    simp [f64l0e, dnH, hi, hw, hg, hr, e1, e2, app, elsOf, cl, il, hb, HP.get, HP.put, treeOf, filt_tt]
    exact ⟨ck + 1 + 1, 2, ck + 1 + 1 + 1 + 1, acc ++ r, by omega, by omega, hT.symm, by simp [cl, il]⟩
  · rintro s ⟨c, o, ck, acc, h1, h2, h3, rfl⟩
    rw [List.take_length] at h3
    subst h3
    simp [-List.length_flatten, f64l0e, filt_tt]
    exact ⟨c, o, _, _, h1, by omega, rfl⟩
theorem sdone_run {h : HP} {ck cf ca cb : Nat} {F : Flt} (hS : FlS h ck cf ca cb F) (hO : Ok N F) (hD : ∀ n ∈ (doneP F).1.flatten, I64 n) (hl : (doneP F).1.flatten.length ≤ 100000) : ∃ h' ck', runL cfg 64 [.pt ⟨34, cf, 5⟩ 15 0 0] h ck = some (.t (.s (toldP 0 (doneP F).1.flatten)), h', ck') ∧ ck ≤ ck' ∧ ∀ q, q.c < ck → h'.get q = h.get q := by
  have hS1 := fls_box (s := 3) (c := ck + 1) (o := 0) (fls_le hS (ck' := ck + 1) (by omega)) (Nat.le_refl _) (.row 3 1 [] false) (ck' := ck + 1 + 1 + 1) (by omega)
  obtain ⟨ks, ko, hks, r⟩ := done2_run hS1 hO
  have q := fun e kk => callEv_h (C := cfg) (s := ⟨e, _, ck + 1 + 1⟩) rfl r kk
  have hdl : (doneP F).1.length ≤ 1000000 := by
    unfold doneP
    split
    · simp
    · have := hO.f0.toks.1; simpa using this
  generalize (doneP F).1 = ts at *
  generalize (doneP F).2 = is at *
  obtain ⟨c, o, ckl, e, g1, g2, hE⟩ := dn_loop (kd := ⟨ks, ck + 1 + 1 + 1 + 1 + 1, ko⟩) (ts := ts) (c0 := ck + 1) (c2 := ck + 1 + 1 + 1) (ck := ck + 1 + 1 + 1 + 3 + 1 + 1 + 1) (o := 0) (h := h) hks hl hdl (by omega)
  have e1 : ∀ c o, ¬ ((⟨ks, ck + 1 + 1 + 1 + 1 + 1, ko⟩ : Key) = (⟨3, c, o⟩ : Key)) := by rintro c o e; rcases hks with e' | e' <;> (subst e'; cases e)
  have t := fun e ckt kk => told_ow ts.flatten hl hD ⟨e, dnH ⟨ks, ck + 1 + 1 + 1 + 1 + 1, ko⟩ ts c (ck + 1 + 1 + 1) o ts.flatten h, ckt⟩ kk ⟨3, c, o⟩ ts.flatten.length rfl (by simp [dnH, HP.get, e1])
  generalize toldP 0 ts.flatten = z at *
  generalize ts.flatten = tf at *
  simp only [iv, bv] at q hE t
  obtain ⟨hx, kq, hR, hk, hfr⟩ : ∃ hx kq, runL cfg 64 [.pt ⟨34, cf, 5⟩ 15 0 0] h ck = some (.t (.s z), hx, kq) ∧ ck ≤ kq ∧ ∀ q, q.c < ck → hx.get q = h.get q := by
    rw [runL_pf (fn := f64) rfl rfl]
    simp only [dnH, cl, il, List.map_nil] at hE t
    simp [q, hE, t, filt_tt, cl, il]
    exact ⟨_, _, ⟨rfl, rfl⟩, by omega, fun q hq => by rw [get_new (by omega), get_new (by omega), get_new (by omega)]⟩
  exact ⟨hx, kq, hR, hk, hfr⟩
theorem lnDone {h : HP} {k cf ca cb : Nat} {F : Flt} {K : List UInt8} (k0 : (K == [97, 115, 107, 48]) = false) (k1 : (K == [100, 101, 108, 105, 118, 101, 114, 49]) = false) (k2 : (K == [100, 114, 111, 112, 49]) = false) (k3 : (K == [116, 119, 105, 99, 101, 49]) = false) (k4 : (K == [97, 100, 100, 50]) = false) (k5 : (K == [114, 101, 116, 105, 114, 101, 50]) = false) (k6 : (K == [98, 97, 103, 48]) = false) (k7 : (K == [100, 111, 110, 101, 48]) = true) (hS : FlS h k cf ca cb F) (hO : Ok N F) (hD : ∀ n ∈ (doneP F).1.flatten, I64 n) (hl : (doneP F).1.flatten.length ≤ 100000) : LineOk N h k cf ca cb (F, toldP 0 (doneP F).1.flatten) (lnR (evL cfg lnT (lnS cf [] K h k))) := by
  have hS1 := fls_le hS (ck' := k + 1 + 1 + 1 + 1 + 1 + 1 + 1 + 1 + 1) (by omega)
  obtain ⟨h', k', r, hk1, hfr⟩ := sdone_run hS1 hO hD hl
  have q := fun e kk => callEv_h (C := cfg) (s := ⟨e, h, k + 1 + 1 + 1 + 1 + 1 + 1 + 1 + 1⟩) rfl r kk
  obtain ⟨kq, hE, hk⟩ : ∃ kq, lnR (evL cfg lnT (lnS cf [] K h k)) = some (.t (.s (toldP 0 (doneP F).1.flatten)), h', kq) ∧ k ≤ kq := by
    generalize toldP 0 (doneP F).1.flatten = r0 at *
    simp [lnR, k0, k1, k2, k3, k4, k5, k6, k7, q, filt_tt, il]
    omega
  exact ⟨h', kq, ca, cb, hE, fls_fr hS hk (fun q hq => hfr q (by omega)), hO.up, Ran.to hk (fun q hq _ => hfr q (by omega))⟩
end
section
variable {N : Nat}
theorem len_two {l : List Int} (h : l.length = 2) : ∃ x y, l = [x, y] := by
  match l, h with
  | [x, y], _ => exact ⟨x, y, rfl⟩
theorem numsP_len : ∀ {ws : List (List UInt8)} {l : List Int}, numsP ws = some l → l.length = ws.length
  | [], l, h => by cases h; rfl
  | w :: ws, l, h => by
    unfold numsP at h
    split at h
    · obtain ⟨l', h1, rfl⟩ := Option.map_eq_some_iff.1 h
      simp [numsP_len h1]
    · cases h
theorem LineOk.of {h : HP} {k ck cf ca cb : Nat} {r : Flt × List UInt8} {E E' : Option (V × HP × Nat)} (a : LineOk N h k cf ca cb r E) (hk : ck ≤ k) (he : ∀ y, E = some y → E' = some y) : LineOk N h ck cf ca cb r E' := by
  obtain ⟨h', ck', ca', cb', a1, a2, a3, a4⟩ := a.ok
  exact ⟨h', ck', ca', cb', he _ a1, a2, a3, ran_in a4 hk (Nat.le_refl _)⟩
theorem cmd_run {h : HP} {k cf ca cb : Nat} {F : Flt} (w : List UInt8) (l : List Int) (hS : FlS h k cf ca cb F) (hO : Ok N F) (hN : N ≤ 700000) (hD : ∀ n ∈ (doneP F).1.flatten, I64 n) (hl : (doneP F).1.flatten.length ≤ 100000) : LineOk N h k cf ca cb (cmdP F w l) (lnR (evL cfg lnT (lnS cf l (w ++ Lib.itoa (l.length : Int)) h k))) := by
  have a0 := key_ask w l
  have a1 := key_deliver w l
  have a2 := key_drop w l
  have a3 := key_twice w l
  have a4 := key_add w l
  have a5 := key_retire w l
  have a6 := key_bag w l
  have a7 := key_done w l
  generalize w ++ Lib.itoa (l.length : Int) = K at *
  unfold cmdP
  cases b0 : is w l wAsk 0 with
  | true =>
    obtain rfl := List.length_eq_zero_iff.1 (is_w b0).2
    rw [b0] at a0
    exact lnAsk a0 hS hO hN
  | false =>
  rw [b0] at a0
  cases b1 : is w l wDeliver 1 with
  | true =>
    obtain ⟨x, rfl⟩ := List.length_eq_one_iff.1 (is_w b1).2
    rw [b1] at a1
    exact lnDeliver x a0 a1 hS hO hN
  | false =>
  rw [b1] at a1
  cases b2 : is w l wDrop 1 with
  | true =>
    obtain ⟨x, rfl⟩ := List.length_eq_one_iff.1 (is_w b2).2
    rw [b2] at a2
    exact lnDrop x a0 a1 a2 hS hO hN
  | false =>
  rw [b2] at a2
  cases b3 : is w l wTwice 1 with
  | true =>
    obtain ⟨x, rfl⟩ := List.length_eq_one_iff.1 (is_w b3).2
    rw [b3] at a3
    exact lnTwice x a0 a1 a2 a3 hS hO hN
  | false =>
  rw [b3] at a3
  cases b4 : is w l wAdd 2 with
  | true =>
    obtain ⟨x, y, rfl⟩ := len_two (is_w b4).2
    rw [b4] at a4
    exact lnAdd x y a0 a1 a2 a3 a4 hS hO hN
  | false =>
  rw [b4] at a4
  cases b5 : is w l wRetire 2 with
  | true =>
    obtain ⟨x, y, rfl⟩ := len_two (is_w b5).2
    rw [b5] at a5
    exact lnRetire x y a0 a1 a2 a3 a4 a5 hS hO hN
  | false =>
  rw [b5] at a5
  cases b6 : is w l wBag 0 with
  | true =>
    obtain rfl := List.length_eq_zero_iff.1 (is_w b6).2
    rw [b6] at a6
    exact lnBag a0 a1 a2 a3 a4 a5 a6 hS hO hN
  | false =>
  rw [b6] at a6
  cases b7 : is w l wDone 0 with
  | true =>
    obtain rfl := List.length_eq_zero_iff.1 (is_w b7).2
    rw [b7] at a7
    exact lnDone a0 a1 a2 a3 a4 a5 a6 a7 hS hO hD hl
  | false =>
  rw [b7] at a7
  exact lnNone a0 a1 a2 a3 a4 a5 a6 a7 hS hO
theorem line_run {h : HP} {ck cf ca cb : Nat} {F : Flt} (s : List UInt8) (hS : FlS h ck cf ca cb F) (hO : Ok N F) (hN : N ≤ 700000) (hs : s.length ≤ 50000) (hD : ∀ n ∈ (doneP F).1.flatten, I64 n) (hl : (doneP F).1.flatten.length ≤ 100000) : LineOk N h ck cf ca cb (lineP F s) (runL cfg 33 [.pt ⟨34, cf, 5⟩ 15 0 0, .t (.s s)] h ck) := by
  unfold lineP
  cases hn : numsP (spl 32 s).tail with
  | none => exact line_bad hS hO (by omega) hn
  | some l =>
    have hle := spl_le (c := 32) (s := s)
    have hll := numsP_len hn
    rw [List.length_tail] at hll
    obtain ⟨k, hk, hE⟩ := line_good (h := h) (ck := ck) (cf := cf) (by omega) hn (by omega)
    exact (cmd_run _ l (fls_le hS hk) hO hN hD hl).of hk hE
end
abbrev BT : Nat := 62
theorem ck_new {k : Key} {x : V} (s : St) (k' : Key) (h : s.hp.get k = some (.box BT [.t .np, x])) : callEv cfg (runL cfg) 60 [.pt k 2 0 0] s k' = some (.tu [], s.hp.put k k (.box BT [.pt k 2 0 0, x]), s.ck + 3) := by
  refine callEv_h (C := cfg) (c' := s.ck + 2) rfl ?_ k'
  rw [runL_ex (p := ckP BT) rfl]
  unfold ckP
  simp only [h, if_true]
theorem ck_old {k : Key} {x : V} (s : St) (k' : Key) (h : s.hp.get k = some (.box BT [.pt k 2 0 0, x])) : callEv cfg (runL cfg) 60 [.pt k 2 0 0] s k' = some (.tu [], s.hp, s.ck + 3) := by
  refine callEv_h (C := cfg) (c' := s.ck + 2) rfl ?_ k'
  rw [runL_ex (p := ckP BT) rfl]
  unfold ckP
  simp only [h, true_and, if_true]
theorem bytesT_app (a b : List UInt8) : bytesT (a ++ b) = bytesT a ++ bytesT b := by simp [bytesT]
theorem bytesT_all (a : List UInt8) : ((bytesT a).all fun c => c.length == 1) = true := by
  rw [List.all_eq_true]; intro c hc
  obtain ⟨q, _, rfl⟩ := List.mem_map.1 hc
  rfl
theorem bytesT_le (a : List UInt8) : (bytesT a).length = a.length := by simp [bytesT]
end Go.Proofs.YtlfjlpleodlkmaaGreatDoor.Pv
namespace Go.Pev
open Go
def KLe (h : HP) (c : Nat) : Prop := ∀ p ∈ h, p.1.c ≤ c
def KL (h : HP) (c : Nat) : Prop := ∀ p ∈ h, p.1.c < c
theorem KL.le {h : HP} {c c' : Nat} (a : KL h c) (b : c ≤ c' + 1) : KLe h c' := fun p hp => by have := a p hp; omega
theorem KLe.lt {h : HP} {c c' : Nat} (a : KLe h c) (b : c < c') : KL h c' := fun p hp => by have := a p hp; omega
theorem KLe.mono {h : HP} {c c' : Nat} (a : KLe h c) (b : c ≤ c') : KLe h c' := fun p hp => by have := a p hp; omega
theorem KLe.cons {h : HP} {c : Nat} {k : Key} {o : Ob} (a : KLe h c) (b : k.c ≤ c) : KLe ((k, o) :: h) c := by
  intro p hp
  rcases List.mem_cons.1 hp with rfl | hp
  · exact b
  · exact a p hp
theorem KLe.put {c : Nat} {k k2 : Key} {o : Ob} (b : k2.c ≤ c) : ∀ {h : HP}, KLe h c → KLe (h.put k k2 o) c
  | [], a => a
  | (k', o') :: r, a => by
    unfold HP.put
    split
    · exact KLe.cons (fun p hp => a p (List.mem_cons_of_mem _ hp)) b
    · exact KLe.cons (KLe.put b (fun p hp => a p (List.mem_cons_of_mem _ hp))) (a (k', o') List.mem_cons_self)
theorem KLe.put_self {c : Nat} {k : Key} {o : Ob} : ∀ {h : HP}, KLe h c → KLe (h.put k k o) c
  | [], a => a
  | (k', o') :: r, a => by
    unfold HP.put
    split
    · next e => exact KLe.cons (fun p hp => a p (List.mem_cons_of_mem _ hp)) (e ▸ a (k', o') List.mem_cons_self)
    · exact KLe.cons (KLe.put_self (fun p hp => a p (List.mem_cons_of_mem _ hp))) (a (k', o') List.mem_cons_self)
theorem KLe.freeze1 {h : HP} {c : Nat} {k : Key} (a : KLe h c) : KLe (freeze1 h k) c := by
  unfold Go.Pev.freeze1
  split
  · exact a.put_self
  · exact a
theorem KLe.freezeAll {c : Nat} : ∀ (ks : List Key) {h : HP}, KLe h c → KLe (freezeAll h ks) c
  | [], h, a => a
  | k :: r, h, a => by unfold Go.Pev.freezeAll; exact KLe.freezeAll r a.freeze1
theorem KLe.store {h h' : HP} {c n : Nat} {v a : V} (k : KLe h c) (hs : store h n v a = some h') : KLe h' c := by
  unfold Go.Pev.store at hs
  repeat' split at hs
  all_goals first | (cases hs; done) | (cases hs; exact k.put_self) | (cases hs; exact (k.freezeAll _).put_self)
theorem KLe.mup {h h' : HP} {c : Nat} {x i v : V} (k : KLe h c) (hs : mup h x i v = some h') : KLe h' c := by
  unfold Go.Pev.mup at hs
  repeat' split at hs
  all_goals first | (cases hs; done) | (cases hs; exact k.put_self)
theorem KLe.clr {h h' : HP} {c n : Nat} {x : V} (k : KLe h c) (hs : clr h n x = some h') : KLe h' c := by
  unfold Go.Pev.clr at hs
  repeat' split at hs
  all_goals first | (cases hs; done) | (cases hs; exact k.put_self)
theorem KLe.app {h : HP} {c ty sz bytes : Nat} {new : Key} {x y : V} {r : V × HP} (k : KLe h c) (hn : new.c ≤ c) (hs : app h ty sz bytes new x y = some r) : KLe r.2 c := by
  unfold Go.Pev.app at hs
  repeat' split at hs
  all_goals first | (cases hs; done) | (cases hs; exact k.cons hn) | (cases hs; refine KLe.put ?_ k; exact hn)
def RunF (run : Run) : Prop := ∀ f args h ck r h' ck', run f args h ck = some (r, h', ck') → KL h ck → KL h' ck' ∧ ck ≤ ck'
theorem callEv_fresh {C : Cfg} {run : Run} (hrun : RunF run) {f : Nat} {args : List V} {s : St} {new : Key} {v : V} {h : HP} {c : Nat} (hr : callEv C run f args s new = some (v, h, c)) (k : KLe s.hp s.ck) (hn : new.c ≤ s.ck) : KLe h c ∧ s.ck ≤ c := by
  unfold callEv at hr
  split at hr
  · split at hr
    · next r h' c' hx =>
      cases hr
      obtain ⟨a, b⟩ := hrun _ _ _ _ _ _ _ hx (k.lt (by omega))
      exact ⟨a.le (by omega), by omega⟩
    · cases hr
  · split at hr
    · split at hr
      · split at hr
        · split at hr
          · split at hr
            · cases hr; exact ⟨(k.freezeAll _).cons hn, Nat.le_refl _⟩
            · cases hr
          · cases hr
        · split at hr
          · cases hr
            split
            · exact ⟨k, Nat.le_refl _⟩
            · exact ⟨k.freezeAll _, Nat.le_refl _⟩
          · cases hr
      · cases hr
    · cases hr
theorem mapF {α : Type} {x : Option α} {g : α → V × HP × Nat} {v : V} {h : HP} {c : Nat} (hr : x.map g = some (v, h, c)) : ∃ y, x = some y ∧ g y = (v, h, c) := by
  cases x with
  | none => cases hr
  | some y => exact ⟨y, rfl, by simpa using hr⟩
theorem mapG {α β : Type} {x : Option α} {g : α → β} {v : β} (hr : x.map g = some v) : ∃ y, x = some y ∧ g y = v := by
  cases x with
  | none => cases hr
  | some y => exact ⟨y, rfl, by simpa using hr⟩
theorem evPo_fresh {C : Cfg} {run : Run} (hrun : RunF run) {d me : Nat} {s : St} {p : Po} {v : V} {h : HP} {c : Nat} (hr : evPo C run d me s p = some (v, h, c)) (k : KLe s.hp s.ck) : KLe h c ∧ s.ck ≤ c := by
  have hn : (⟨d, s.ck, me⟩ : Key).c ≤ s.ck := Nat.le_refl _
  cases p <;> simp only [evPo] at hr
  case call => exact callEv_fresh hrun hr k hn
  case callv =>
    split at hr
    · exact callEv_fresh hrun hr k hn
    · cases hr
  case callR =>
    split at hr
    · next hx =>
      split at hr
      · cases hr; exact callEv_fresh hrun hx k hn
      · cases hr
    · cases hr
  case callK =>
    split at hr
    · next hx =>
      split at hr
      · cases hr; exact callEv_fresh hrun hx k hn
      · cases hr
    · cases hr
  case store => obtain ⟨y, h1, h2⟩ := mapF hr; cases h2; exact ⟨k.store h1, Nat.le_refl _⟩
  case clr => obtain ⟨y, h1, h2⟩ := mapF hr; cases h2; exact ⟨k.clr h1, Nat.le_refl _⟩
  case mup => obtain ⟨y, h1, h2⟩ := mapF hr; cases h2; exact ⟨k.mup h1, Nat.le_refl _⟩
  case storeD => split at hr; · obtain ⟨y, h1, h2⟩ := mapF hr; cases h2; exact ⟨k.store h1, Nat.le_refl _⟩
                 · cases hr
  case storeR => split at hr; · obtain ⟨y, h1, h2⟩ := mapF hr; cases h2; exact ⟨k.store h1, Nat.le_refl _⟩
                 · cases hr
  case storeS => split at hr; · obtain ⟨y, h1, h2⟩ := mapF hr; cases h2; exact ⟨k.store h1, Nat.le_refl _⟩
                 · cases hr
  case app => obtain ⟨y, h1, h2⟩ := mapF hr; cases h2; exact ⟨k.app hn h1, Nat.le_refl _⟩
  case appU => split at hr; · obtain ⟨y, h1, h2⟩ := mapF hr; cases h2; exact ⟨k.app hn h1, Nat.le_refl _⟩
               · cases hr
  case appS => split at hr; · obtain ⟨y, h1, h2⟩ := mapF hr; cases h2; exact ⟨k.app hn h1, Nat.le_refl _⟩
               · cases hr
  case callo => split at hr; · obtain ⟨y, h1, h2⟩ := mapF hr; cases h2; exact ⟨k.cons hn, Nat.le_refl _⟩
                · cases hr
  case bslT => obtain ⟨y, h1, h2⟩ := mapF hr; cases h2; exact ⟨k.freezeAll _, Nat.le_refl _⟩
  case bslO => obtain ⟨y, h1, h2⟩ := mapF hr; cases h2; exact ⟨(k.freezeAll _).cons hn, Nat.le_refl _⟩
  all_goals first
    | (obtain ⟨y, h1, h2⟩ := mapF hr; cases h2; exact ⟨k, Nat.le_refl _⟩)
    | (cases hr; exact ⟨k, Nat.le_refl _⟩)
    | (cases hr; exact ⟨k.cons hn, Nat.le_refl _⟩)
    | (split at hr <;> first | (cases hr; done) | (cases hr; exact ⟨k, Nat.le_refl _⟩) | (cases hr; exact ⟨k.cons hn, Nat.le_refl _⟩) | (obtain ⟨y, h1, h2⟩ := mapF hr; cases h2; exact ⟨k, Nat.le_refl _⟩) | (split at hr <;> first | (cases hr; done) | (cases hr; exact ⟨k, Nat.le_refl _⟩) | (cases hr; exact ⟨k.cons hn, Nat.le_refl _⟩)))
theorem evG_fresh {C : Cfg} {run : Run} (hrun : RunF run) {me : Nat} {s : St} {o : Pop} {v : V} {h : HP} {c : Nat} (hr : evG C run me o s = some (v, h, c)) (k : KLe s.hp s.ck) : KLe h c ∧ s.ck ≤ c := by
  unfold evG at hr
  split at hr
  · exact evPo_fresh hrun hr k
  · split at hr
    · split at hr
      · exact evPo_fresh hrun hr k
      · cases hr; exact ⟨k, Nat.le_refl _⟩
    · cases hr; exact ⟨k, Nat.le_refl _⟩
    · cases hr
theorem evOps_fresh {C : Cfg} {run : Run} (hrun : RunF run) : ∀ (ops : List (Nat × Pop)) {s s' : St}, evOps C run ops s = some s' → KLe s.hp s.ck → KLe s'.hp s'.ck ∧ s.ck ≤ s'.ck
  | [], s, s', hr, k => by cases hr; exact ⟨k, Nat.le_refl _⟩
  | (me, o) :: r, s, s', hr, k => by
    unfold evOps at hr
    split at hr
    · next s1 h1 =>
      unfold evOp at h1
      obtain ⟨y, e1, e2⟩ := mapG h1
      subst e2
      obtain ⟨a, b⟩ := evG_fresh hrun (v := y.1) (h := y.2.1) (c := y.2.2) e1 k
      obtain ⟨a2, b2⟩ := evOps_fresh hrun r hr a
      exact ⟨a2, Nat.le_trans b b2⟩
    · cases hr
def EvF (ev : Pc → St → Option (Ex × St)) : Prop := ∀ c s e s', ev c s = some (e, s') → KL s.hp s.ck → KL s'.hp s'.ck ∧ s.ck ≤ s'.ck
theorem evStep_fresh {C : Cfg} {run : Run} {ev : Pc → St → Option (Ex × St)} (hrun : RunF run) (hev : EvF ev) : EvF (evStep C run ev) := by
  intro c s e s' hr k
  unfold evStep at hr
  split at hr
  · cases hr; exact ⟨k, Nat.le_refl _⟩
  · split at hr
    · next s1 h1 =>
      cases hr
      obtain ⟨a, b⟩ := evOps_fresh hrun _ h1 (k.le (by omega))
      refine ⟨fun p hp => ?_, by show s.ck ≤ s1.ck + 1; omega⟩
      have := a p (List.mem_filter.1 hp).1
      show p.1.c < s1.ck + 1
      omega
    · cases hr
  · unfold thenC at hr
    split at hr
    · next s1 h1 =>
      obtain ⟨a, b⟩ := hev _ _ _ _ h1 k
      obtain ⟨a2, b2⟩ := hev _ _ _ _ hr a
      exact ⟨a2, Nat.le_trans b b2⟩
    · next e1 s1 h1 h2 => cases hr; exact hev _ _ _ _ h2 k
    · cases hr
  · split at hr
    · exact hev _ _ _ _ hr k
    · exact hev _ _ _ _ hr k
    · cases hr
  · unfold blockC at hr
    split at hr
    · next i s1 h1 =>
      split at hr <;> (cases hr; exact hev _ _ _ _ h1 k)
    · exact hev _ _ _ _ hr k
  · unfold thenC at hr
    split at hr
    · next s1 h1 =>
      obtain ⟨a, b⟩ := hev _ _ _ _ h1 k
      obtain ⟨a2, b2⟩ := hev _ _ _ _ hr a
      exact ⟨a2, Nat.le_trans b b2⟩
    · next e1 s1 h1 h2 => cases hr; exact hev _ _ _ _ h2 k
    · cases hr
  · cases hr; exact ⟨k, Nat.le_refl _⟩
  · cases hr; exact ⟨k, Nat.le_refl _⟩
def ExF (C : Cfg) : Prop := ∀ f p, C.ex f = some p → ∀ args h ck r h' ck', p args h ck = some (r, h', ck') → KL h ck → KL h' ck' ∧ ck ≤ ck'
theorem fresh_all {C : Cfg} (hE : ExF C) : ∀ n, EvF (ev C n) ∧ RunF (run C n)
  | 0 => ⟨fun c s e s' hr => (by unfold ev at hr; cases hr), fun f args h ck r h' ck' hr => (by unfold run at hr; cases hr)⟩
  | n + 1 => by
    obtain ⟨a, b⟩ := fresh_all hE n
    refine ⟨fun c s e s' hr => ?_, fun f args h ck r h' ck' hr k => ?_⟩
    · unfold ev at hr
      exact evStep_fresh b a c s e s' hr
    · unfold run runWith at hr
      split at hr
      · next p hp => exact hE f p hp args h ck r h' ck' hr k
      · split at hr
        · cases hr
        · unfold runFn at hr
          split at hr
          · split at hr
            · next s1 h1 =>
              obtain ⟨y, e1, e2⟩ := mapF hr
              cases e2
              exact a _ _ _ _ h1 k
            · next s1 h1 =>
              obtain ⟨y, e1, e2⟩ := mapF hr
              cases e2
              exact a _ _ _ _ h1 k
            · cases hr
          · cases hr
theorem runL_fresh {C : Cfg} (hE : ExF C) {f : Nat} {args : List V} {h : HP} {ck : Nat} {r : V} {h' : HP} {ck' : Nat} (hr : runL C f args h ck = some (r, h', ck')) (k : KL h ck) : KL h' ck' ∧ ck ≤ ck' := by
  obtain ⟨n, hn⟩ := (runL_iff _).1 hr
  exact (fresh_all hE n).2 _ _ _ _ _ _ _ hn k
theorem KL.none {h : HP} {c : Nat} (k : KL h c) {q : Key} (hq : c ≤ q.c) : h.get q = none := by
  induction h with
  | nil => rfl
  | cons p r ih =>
    have h1 := k p List.mem_cons_self
    unfold HP.get
    rw [if_neg (fun e => by rw [e] at h1; omega)]
    exact ih (fun p hp => k p (List.mem_cons_of_mem _ hp))
end Go.Pev
namespace Go.Proofs.YtlfjlpleodlkmaaGreatDoor.Pv
open Go Go.Pev
def FrP (p : List V → HP → Nat → Option (V × HP × Nat)) : Prop := ∀ args h ck r h' ck', p args h ck = some (r, h', ck') → KL h ck → KL h' ck' ∧ ck ≤ ck'
theorem kl_put {h : HP} {c c' : Nat} {k : Key} {o : Ob} (a : KL h c) (b : c ≤ c') : KL (h.put k k o) (c' + 1) := KLe.lt (KLe.put_self (a.le (c' := c') (by omega))) (by omega)
theorem kl_up {h : HP} {c c' : Nat} (a : KL h c) (b : c ≤ c') : KL h c' := fun p hp => by have := a p hp; omega
theorem kl_del {h : HP} {c : Nat} {k : Key} (a : KL h c) : KL (h.del k) c := by
  induction h with
  | nil => exact a
  | cons p r ih =>
    unfold HP.del
    split
    · exact fun q hq => a q (List.mem_cons_of_mem _ hq)
    · intro q hq
      rcases List.mem_cons.1 hq with rfl | hq
      · exact a _ List.mem_cons_self
      · exact ih (fun x hx => a x (List.mem_cons_of_mem _ hx)) q hq
theorem kl_nil (c : Nat) : KL [] c := fun p hp => by cases hp
theorem clone_fr (ty sz b : Nat) : FrP (cloneP ty sz b) := by
  intro args h ck r h' ck' hr k
  unfold cloneP at hr
  repeat' split at hr
  all_goals first | (cases hr; done) | (cases hr; exact ⟨KLe.lt (c := ck) (KLe.cons (fun p hp => by cases hp) (Nat.le_refl ck)) (by omega), by omega⟩)
theorem sort_fr : FrP sortP := by
  intro args h ck r h' ck' hr k
  unfold sortP at hr
  repeat' split at hr
  all_goals first | (cases hr; done) | (cases hr; exact ⟨kl_put k (Nat.le_refl _), by omega⟩)
theorem del_fr : FrP delP := by
  intro args h ck r h' ck' hr k
  unfold delP at hr
  repeat' split at hr
  all_goals first | (cases hr; done) | (cases hr; exact ⟨kl_put k (Nat.le_refl _), by omega⟩)
theorem ck_fr (t : Nat) : FrP (ckP t) := by
  intro args h ck r h' ck' hr k
  unfold ckP at hr
  repeat' split at hr
  all_goals first | (cases hr; done) | (cases hr; exact ⟨kl_put k (Nat.le_refl _), by omega⟩) | (cases hr; exact ⟨kl_up k (by omega), by omega⟩)
theorem str_fr (t e : Nat) : FrP (strP t e) := by
  intro args h ck r h' ck' hr k
  unfold strP at hr
  repeat' split at hr
  all_goals first | (cases hr; done) | (cases hr; exact ⟨kl_put (kl_del k) (Nat.le_refl _), by omega⟩) | (cases hr; exact ⟨kl_up k (by omega), by omega⟩)
theorem split_fr : FrP splitP := by
  intro args h ck r h' ck' hr k
  unfold splitP at hr
  repeat' split at hr
  all_goals first | (cases hr; done) | (cases hr; exact ⟨kl_nil _, by omega⟩)
theorem trim_fr : FrP trimP := by
  intro args h ck r h' ck' hr k
  unfold trimP at hr
  repeat' split at hr
  all_goals first | (cases hr; done) | (cases hr; exact ⟨kl_nil _, by omega⟩)
theorem atoi_fr : FrP atoiP := by
  intro args h ck r h' ck' hr k
  unfold atoiP at hr
  repeat' split at hr
  all_goals first | (cases hr; done) | (cases hr; exact ⟨kl_nil _, by omega⟩)
theorem itoa_fr : FrP itoaP := by
  intro args h ck r h' ck' hr k
  unfold itoaP at hr
  repeat' split at hr
  all_goals first | (cases hr; done) | (cases hr; exact ⟨kl_nil _, by omega⟩)
theorem exF : ExF cfg := by
  intro f p hp
  have key : ∀ q ∈ exs, FrP q.2 := by
    unfold exs
    simp only [List.forall_mem_cons]
    exact ⟨clone_fr _ _ _, clone_fr _ _ _, clone_fr _ _ _, clone_fr _ _ _, del_fr, sort_fr, ck_fr _, str_fr _ _, split_fr, trim_fr, atoi_fr, itoa_fr, by simp⟩
  exact key (f, p) (lookup_mem hp)
theorem get_putne {k k2 q : Key} {o : Ob} (h1 : q ≠ k) (h2 : q ≠ k2) : ∀ {h : HP}, (h.put k k2 o).get q = h.get q
  | [] => rfl
  | (k', o') :: r => by
    unfold HP.put
    split
    · next e =>
      simp only [HP.get]
      rw [if_neg (fun e => h2 e.symm), if_neg (fun e' => h1 (by rw [← e', e]))]
    · simp only [HP.get]
      rw [get_putne h1 h2]
theorem get_putnew {k k2 : Key} {o o1 : Ob} : ∀ {h : HP}, h.get k = some o1 → h.get k2 = none → (h.put k k2 o).get k2 = some o
  | [], h1, _ => by cases h1
  | (k', o') :: r, h1, h2 => by
    unfold HP.put
    simp only [HP.get] at h1 h2
    split
    · simp [HP.get]
    · next e =>
      rw [if_neg e] at h1
      split at h2
      · cases h2
      · next e2 =>
        simp only [HP.get]
        rw [if_neg e2, get_putnew h1 h2]
def BldR (h : HP) (k : Key) (bs : List UInt8) : Prop := (bs = [] ∧ h.get k = some (.box BT [.t .np, .nl])) ∨ ∃ c o, h.get k = some (.box BT [.pt k 2 0 0, .ow ⟨14, c, o⟩ 1 0 bs.length]) ∧ h.get ⟨14, c, o⟩ = some (.row 5 1 (bytesT bs) false)
theorem wstrR_old {h : HP} {ck c o : Nat} {k : Key} {bs t : List UInt8} (hk : k.s ≠ 14) (hkl : KL h ck) (h1 : h.get k = some (.box BT [.pt k 2 0 0, .ow ⟨14, c, o⟩ 1 0 bs.length])) (h2 : h.get ⟨14, c, o⟩ = some (.row 5 1 (bytesT bs) false)) (ht : bs.length + t.length ≤ 140737488355328) : ∃ h', runL cfg 32 [.pt k 2 0 0, .t (.s t)] h ck = some (.tu [iv t.length, .t .ni], h', ck + 7) ∧ h'.get k = some (.box BT [.pt k 2 0 0, .ow ⟨14, ck + 5, 6⟩ 1 0 (bs ++ t).length]) ∧ h'.get ⟨14, ck + 5, 6⟩ = some (.row 5 1 (bytesT (bs ++ t)) false) ∧ ∀ q, q ≠ k → q.s ≠ 14 → h'.get q = h.get q := by
  have e0 := fun s k' h => ck_old (k := k) (x := .ow ⟨14, c, o⟩ 1 0 bs.length) s k' h
  have e1 : ∀ c o, ¬ (⟨14, c, o⟩ : Key) = k := by rintro c o rfl; exact hk rfl
  have e2 : ∀ c o, ¬ k = (⟨14, c, o⟩ : Key) := fun c o e => e1 c o e.symm
  have hno : h.get ⟨14, ck + 5, 6⟩ = none := hkl.none (by show ck ≤ ck + 5; omega)
  have g1 : ∀ ob, (h.put ⟨14, c, o⟩ ⟨14, ck + 5, 6⟩ ob).get k = some (.box BT [.pt k 2 0 0, .ow ⟨14, c, o⟩ 1 0 bs.length]) := fun ob => by rw [get_putne (e2 _ _) (e2 _ _), h1]
  refine ⟨(h.put ⟨14, c, o⟩ ⟨14, ck + 5, 6⟩ (.row 5 1 (bytesT (bs ++ t)) false)).put k k (.box BT [.pt k 2 0 0, .ow ⟨14, ck + 5, 6⟩ 1 0 (bs ++ t).length]), ?_, ?_, ?_, ?_⟩
  · rw [runL_pf (fn := f32) rfl rfl]
    simp [h1, h2, e0, g1, app, elsOf, treeOf, bytesT_all, bytesT_le, ht, over, e1, e2, bytesT_app, filt_t]
  · rw [hp_get_put, if_pos rfl, g1]; rfl
  · rw [get_putne (e1 _ _) (e1 _ _), get_putnew h2 hno]
  · intro q hq h14
    rw [get_putne hq hq, get_putne (fun e => h14 (by rw [e])) (fun e => h14 (by rw [e]))]
theorem wstrR_new {h : HP} {ck : Nat} {k : Key} {t : List UInt8} (hk : k.s ≠ 14) (hkl : KL h ck) (h1 : h.get k = some (.box BT [.t .np, .nl])) (ht : t.length ≤ 140737488355328) : ∃ h', runL cfg 32 [.pt k 2 0 0, .t (.s t)] h ck = some (.tu [iv t.length, .t .ni], h', ck + 7) ∧ h'.get k = some (.box BT [.pt k 2 0 0, .ow ⟨14, ck + 5, 6⟩ 1 0 t.length]) ∧ h'.get ⟨14, ck + 5, 6⟩ = some (.row 5 1 (bytesT t) false) ∧ ∀ q, q ≠ k → q.s ≠ 14 → h'.get q = h.get q := by
  have e0 := fun s k' h => ck_new (k := k) (x := .nl) s k' h
  have e1 : ∀ c o, ¬ (⟨14, c, o⟩ : Key) = k := by rintro c o rfl; exact hk rfl
  have e2 : ∀ c o, ¬ k = (⟨14, c, o⟩ : Key) := fun c o e => e1 c o e.symm
  have g1 : ∀ ob, (h.put k k ob).get k = some ob := fun ob => by rw [hp_get_put, if_pos rfl, h1]; rfl
  have g2 : ∀ c o (ob : Ob) (r : HP), HP.get ((⟨14, c, o⟩, ob) :: r) k = r.get k := fun c o ob r => by simp only [HP.get]; rw [if_neg (e1 _ _)]
  refine ⟨(⟨14, ck + 5, 6⟩, .row 5 1 (bytesT t) false) :: (h.put k k (.box BT [.pt k 2 0 0, .nl])).put k k (.box BT [.pt k 2 0 0, .ow ⟨14, ck + 5, 6⟩ 1 0 t.length]), ?_, ?_, ?_, ?_⟩
  · rw [runL_pf (fn := f32) rfl rfl]
    simp [h1, e0, g1, app, elsOf, treeOf, bytesT_all, bytesT_le, ht, over, e1, e2, filt_t]
  · rw [g2, hp_get_put, if_pos rfl, g1]; rfl
  · simp [HP.get]
  · intro q hq h14
    simp only [HP.get]
    rw [if_neg (fun e => h14 (by rw [← e])), get_putne hq hq, get_putne hq hq]
theorem wstrR {h : HP} {ck : Nat} {k : Key} {bs t : List UInt8} (hk : k.s ≠ 14) (hkl : KL h ck) (hb : BldR h k bs) (ht : bs.length + t.length ≤ 140737488355328) : ∃ h', runL cfg 32 [.pt k 2 0 0, .t (.s t)] h ck = some (.tu [iv t.length, .t .ni], h', ck + 7) ∧ BldR h' k (bs ++ t) ∧ ∀ q, q ≠ k → q.s ≠ 14 → h'.get q = h.get q := by
  rcases hb with ⟨rfl, h1⟩ | ⟨c, o, h1, h2⟩
  · obtain ⟨h', a1, a2, a3, a4⟩ := wstrR_new hk hkl h1 (by simpa using ht)
    exact ⟨h', a1, .inr ⟨_, _, a2, a3⟩, a4⟩
  · obtain ⟨h', a1, a2, a3, a4⟩ := wstrR_old hk hkl h1 h2 ht
    exact ⟨h', a1, .inr ⟨_, _, a2, a3⟩, a4⟩
theorem bstrR {h : HP} {ck : Nat} {k : Key} {bs : List UInt8} (hb : BldR h k bs) (hne : bs ≠ []) : ∃ h', runL cfg 34 [.pt k 2 0 0] h ck = some (.t (.s bs), h', ck + 1) := by
  rcases hb with ⟨rfl, _⟩ | ⟨c, o, h1, h2⟩
  · exact absurd rfl hne
  · have hl : 0 < bs.length := List.length_pos_iff.2 hne
    rw [runL_ex (p := strP BT 5) rfl]
    unfold strP
    simp [h1, h2, u8x_bytes, bytesT_le, hl]
def scrP (F : Flt) : List (List UInt8) → Flt × List UInt8
  | [] => (F, [])
  | s :: r => ((scrP (lineP F s).1 r).1, (lineP F s).2 ++ 10 :: (scrP (lineP F s).1 r).2)
structure Held (G : Flt → Prop) : Prop where
  step : ∀ F s, G F → G (lineP F s).1
  nums : ∀ F, G F → ∀ n ∈ (doneP F).1.flatten, I64 n
  few : ∀ F, G F → (doneP F).1.flatten.length ≤ 100
theorem toldP_le (e : Int) (l : List Int) (he : I64 e) (hl : l.length ≤ 100) (hn : ∀ n ∈ l, I64 n) : (toldP e l).length ≤ 3000 := by
  unfold toldP
  split
  · have := nsB_len l hn
    rw [List.length_append]
    simp [okB]; omega
  · have := Lib.itoa_length_le e he.1 he.2
    simp [errB]; omega
theorem fls_site {h h' : HP} {ck ck' cf ca cb : Nat} {F : Flt} (hS : FlS h ck cf ca cb F) (hle : ck ≤ ck') (hfr : ∀ q, q.s ≠ 4 → q.s ≠ 14 → h'.get q = h.get q) : FlS h' ck' cf ca cb F := by
  obtain ⟨v, hB, l1, l2, l3, hr⟩ := hS
  refine ⟨v, ⟨?_, hB.2⟩, by omega, by omega, by omega, fun hc => ?_⟩
  · rw [hfr _ (by show (34 : Nat) ≠ 4; decide) (by show (34 : Nat) ≠ 14; decide)]; exact hB.1
  · obtain ⟨r1, r2, r3, r4, r5⟩ := hr hc
    exact ⟨r1, r2, r3, by rw [hfr _ (by show (38 : Nat) ≠ 4; decide) (by show (38 : Nat) ≠ 14; decide)]; exact r4, by rw [hfr _ (by show (47 : Nat) ≠ 4; decide) (by show (47 : Nat) ≠ 14; decide)]; exact r5⟩
theorem bld_ran {h h' : HP} {ck ck' cf ca cb ca' cb' : Nat} {k : Key} {bs : List UInt8} (hb : BldR h k bs) (hk : k.s = 4) (hkl : KL h ck) (R : Ran h ck cf ca cb h' ck' ca' cb') : BldR h' k bs := by
  have lt : ∀ q ob, h.get q = some ob → q.c < ck := by
    intro q ob hq
    rcases Nat.lt_or_ge q.c ck with h1 | h1
    · exact h1
    · rw [hkl.none h1] at hq; cases hq
  have fr : ∀ q ob, (q.s = 4 ∨ q.s = 14) → h.get q = some ob → h'.get q = some ob := by
    intro q ob hs hq
    rw [R.fr q (lt q ob hq) (by rintro rfl; rcases hs with e | e <;> cases e) (by rintro rfl; rcases hs with e | e <;> cases e) (by rintro rfl; rcases hs with e | e <;> cases e)]
    exact hq
  rcases hb with ⟨rfl, h1⟩ | ⟨c, o, h1, h2⟩
  · exact .inl ⟨rfl, fr _ _ (.inl hk) h1⟩
  · exact .inr ⟨c, o, fr _ _ (.inl hk) h1, fr _ _ (.inr rfl) h2⟩
def rnI (G : Flt → Prop) (cf : Nat) (k : Key) (ls : List (List UInt8)) (W : List UInt8) (i : Nat) (s : St) : Prop := ∃ F out h ck ca cb N, FlS h ck cf ca cb F ∧ Ok N F ∧ N ≤ i + 1000 ∧ G F ∧ KL h ck ∧ BldR h k out ∧ out.length ≤ 3001 * i ∧ W = out ++ (scrP F (ls.drop i)).2 ∧
  s = ⟨[(3, .pt ⟨34, cf, 5⟩ 15 0 0), (4, .pt k 2 0 0), (12, .t (sl ls)), (13, iv ls.length), (14, iv (i : Int))], h, ck⟩
def rnQ (k : Key) (W : List UInt8) (E : Option (Ex × St)) : Prop := ∃ h ck a e, BldR h k W ∧ E = some (.exit 0, ⟨(3, a) :: (4, .pt k 2 0 0) :: e, h, ck⟩)
theorem rn_loop {G : Flt → Prop} (hG : Held G) {cf : Nat} {k : Key} (hk : k.s = 4) {ls : List (List UInt8)} (hl : ls.length ≤ 10000) (hls : ∀ s ∈ ls, s.length ≤ 50000) (hlen : ∀ F s, G F → (lineP F s).2.length ≤ 3000) {F : Flt} {h : HP} {ck ca cb N : Nat} (hS : FlS h ck cf ca cb F) (hO : Ok N F) (hN : N ≤ 1000) (hg : G F) (hkl : KL h ck) (hb : BldR h k []) : rnQ k (scrP F ls).2 (evL cfg (.loop f14l0) ⟨[(3, .pt ⟨34, cf, 5⟩ 15 0 0), (4, .pt k 2 0 0), (12, .t (sl ls)), (13, iv ls.length), (14, iv 0)], h, ck⟩) := by
  refine loop_q ls.length (rnI G cf k ls (scrP F ls).2) ?_ ?_ _ ⟨F, [], h, ck, ca, cb, N, hS, hO, by omega, hg, hkl, hb, by simp, by simp, rfl⟩
  · rintro i s hi ⟨F1, out, h1, ck1, ca1, cb1, N1, hS1, hO1, hN1, hg1, hkl1, hb1, ho1, hW, rfl⟩
    have hw : IntKind.i64.wrap ((i : Int) + 1) = (i : Int) + 1 := wrap_id (by omega) (by omega)
    have hd : ls.drop i = ls[i] :: ls.drop (i + 1) := List.drop_eq_getElem_cons hi
    have hsl := hls _ (List.getElem_mem hi)
    have hL := line_run (ck := ck1 + 1 + 1 + 1) ls[i] (fls_le hS1 (by omega)) hO1 (by omega) hsl (hG.nums F1 hg1) (by have := hG.few F1 hg1; omega)
    obtain ⟨h2, ck2, ca2, cb2, r, s2, o2, R⟩ := hL.ok
    have kl2 := (runL_fresh exF r (kl_up hkl1 (by omega))).1
    have hb2 := bld_ran hb1 hk (kl_up hkl1 (by omega)) R
    have hll := hlen F1 ls[i] hg1
    obtain ⟨h3, r3, b3, f3⟩ := wstrR (ck := ck2 + 1 + 1) (by rw [hk]; decide) (kl_up kl2 (by omega)) hb2 (t := (lineP F1 ls[i]).2 ++ [10]) (by simp; omega)
    have kl3 := (runL_fresh exF r3 (kl_up kl2 (by omega))).1
    have q1 := fun e kk => callEv_h (C := cfg) (s := ⟨e, h1, ck1 + 1 + 1⟩) rfl r kk
    have q2 := fun e kk => callEv_h (C := cfg) (s := ⟨e, h2, ck2 + 1⟩) rfl r3 kk
    have hW2 : (scrP F ls).2 = (out ++ ((lineP F1 ls[i]).2 ++ [10])) ++ (scrP (lineP F1 ls[i]).1 (ls.drop (i + 1))).2 := by
      rw [hW, hd]; simp [scrP]
    have hi64 : ¬ i64max < ((lineP F1 ls[i]).2.length : Int) + 1 := by unfold i64max; omega
    have st := hG.step F1 ls[i] hg1
    generalize lineP F1 ls[i] = p at *
    have goal : ∀ c, ck2 + 1 + 1 + 7 ≤ c → rnI G cf k ls (scrP F ls).2 (i + 1) ⟨[(3, .pt ⟨34, cf, 5⟩ 15 0 0), (4, .pt k 2 0 0), (12, .t (sl ls)), (13, iv ls.length), (14, iv ((i : Int) + 1))], h3, c⟩ := by
      intro c hc
      refine ⟨p.1, out ++ (p.2 ++ [10]), h3, c, ca2, cb2, N1 + 1, fls_site s2 (by omega) (fun q h4 h14 => f3 q (fun e => h4 (by rw [e, hk])) h14), o2, by omega, st, kl_up kl3 hc, b3, by simp; omega, hW2, rfl⟩
    simp only [iv] at q1 q2
    simp [f14l0e, sl, slc, hi, hw, q1, q2, hi64, filt_tt]
    simp only [iv, sl, slc] at goal
    refine goal _ ?_
    omega
  · rintro s ⟨F1, out, h1, ck1, ca1, cb1, N1, hS1, hO1, hN1, hg1, hkl1, hb1, ho1, hW, rfl⟩
    rw [List.drop_eq_nil_of_le (Nat.le_refl _)] at hW
    have hW2 : (scrP F ls).2 = out := by rw [hW]; simp [scrP]
    simp [f14l0e, filt_tt]
    exact ⟨_, _, _, _, hW2 ▸ hb1, rfl⟩
def shM : Mod := ⟨1, [⟨[[65536], [0]], [⟨[[65536]], [[65536]]⟩, ⟨[[65536]], [[131072]]⟩], 2⟩]⟩
theorem sh_ok : newOk shM 0 [[1, 2], [1, 2]] [[100], [50], [7]] = true := by decide +kernel
def shF : Flt := startF shM 0 [[1, 2], [1, 2]] [[100], [50], [7]]
theorem shM_few : FewM shM := ⟨by simp [shM], by simp [shM, FewL, FewX, Few]⟩
def shB : Ob := .box 37 [.t (gl [[65536], [0]]), .t (.l [[gl [[65536]], gl [[65536]]], [gl [[65536]], gl [[131072]]]]), iv 2]
theorem sfresh_run (h : HP) (ck : Nat) : ∃ h' ck' cf ca cb, runL cfg 29 [] h ck = some (.pt ⟨34, cf, 5⟩ 15 0 0, h', ck') ∧ FlS h' ck' cf ca cb shF ∧ Ok 0 shF ∧ ck ≤ ck' := by
  obtain ⟨h1, k1, cf, ca1, cb1, r1, s1, o1, x1⟩ := new_good (ph := [[1, 2], [1, 2]]) (ts := [[100], [50], [7]]) (pe := 0) shM_few ⟨by simp, by simp⟩ ⟨by simp, by simp⟩ sh_ok ((⟨3, ck + 1 + 1, 11⟩, shB) :: h) (ck + 1 + 1 + 1 + 1)
  have q := fun e kk => callEv_h (C := cfg) (s := ⟨e, _, ck + 1 + 1 + 1⟩) rfl r1 kk
  obtain ⟨k, hE, hk⟩ : ∃ k, runL cfg 29 [] h ck = some (.pt ⟨34, cf, 5⟩ 15 0 0, h1, k) ∧ k1 ≤ k := by
    rw [runL_pf (fn := f29) rfl rfl]
    simp [modV, mapV, laysT, shM, layT, exT, gl, il, iv, shB] at q
    simp [buildV, cells, over, rowsOf, treesC, treesOf, treeOf, keysOfs, freezeAll, keysOf, keysOf1, filt_t, q]
    omega
  exact ⟨h1, k, cf, ca1, cb1, hE, fls_le s1 hk, o1, by omega⟩
theorem line_len {G : Flt → Prop} (hG : Held G) (hc : ∀ F, G F → F.bag.length ≤ 1000000 ∧ workedP F ≤ 1000000) (F : Flt) (s : List UInt8) (hg : G F) : (lineP F s).2.length ≤ 3000 := by
  have t0 := fun e (he : I64 e) => toldP_le e [] he (by simp) (by simp)
  have c0 : ∀ e : Int, 0 ≤ e ∧ e ≤ 100 → I64 e := fun e h => ⟨by omega, by omega⟩
  have c4 : ∀ e : Int, e = 0 ∨ e = 4 → I64 e := fun e h => ⟨by omega, by omega⟩
  obtain ⟨b1, b2⟩ := hc F hg
  unfold lineP
  split
  · exact t0 2 (c0 _ (by omega))
  · next l hl =>
    unfold cmdP
    split
    · exact t0 0 (c0 _ (by omega))
    split
    · exact t0 _ (c4 _ (delvP_code _ _))
    split
    · exact t0 _ (c4 _ (dropP_code _ _))
    split
    · exact t0 _ (c4 _ (twiceP_code _ _))
    split
    · exact t0 _ (c0 _ (addP_code _ _ _))
    split
    · exact t0 _ (c0 _ (retP_code _ _ _))
    split
    · exact toldP_le 0 _ (c0 _ (by omega)) (by simp) (by intro n hn; rcases List.mem_cons.1 hn with rfl | hn; exact ⟨by omega, by omega⟩; rcases List.mem_singleton.1 hn with rfl; exact ⟨by omega, by omega⟩)
    split
    · exact toldP_le 0 _ (c0 _ (by omega)) (hG.few F hg) (hG.nums F hg)
    · exact t0 2 (c0 _ (by omega))
def shellP (s : List UInt8) : List UInt8 := if s = [] then [] else (scrP shF (spl 10 (Lib.trimSuffix s [10]))).2
theorem trim_le (s p : List UInt8) : (Lib.trimSuffix s p).length ≤ s.length := by
  unfold Lib.trimSuffix
  split
  · rw [List.length_take]; omega
  · exact Nat.le_refl _
theorem scr_ne (F : Flt) {ls : List (List UInt8)} (h : ls ≠ []) : (scrP F ls).2 ≠ [] := by
  cases ls with
  | nil => exact absurd rfl h
  | cons s r => simp [scrP]
theorem srun_ret {G : Flt → Prop} (hG : Held G) (hc : ∀ F, G F → F.bag.length ≤ 1000000 ∧ workedP F ≤ 1000000) (hg : G shF) (s : List UInt8) (hs : s.length ≤ 9000) : RetT cfg 14 [.t (.s s)] (.t (.s (shellP s))) := by
  refine RetT.of ?_
  rw [runL_pf (fn := f14) rfl rfl]
  unfold shellP
  by_cases h0 : s = []
  · subst h0
    simp
  · have hB : (s == []) = false := by
      cases s with
      | nil => exact absurd rfl h0
      | cons c r => rfl
    obtain ⟨h1, k1, cf, ca, cb, r1, s1, o1, l1⟩ := sfresh_run [] 3
    have kl1 := (runL_fresh exF r1 (kl_nil 3)).1
    have q1 := fun e kk => callEv_h (C := cfg) (s := ⟨e, [], 2⟩) rfl r1 kk
    have htl := trim_le s [10]
    have q2 := fun s' k => callEv_tr (C := cfg) (trim_ret s [10] (by omega)) rfl rfl rfl s' k
    have q3 := fun s' k => callEv_tr (C := cfg) (split_ret (Lib.trimSuffix s [10]) 10 (by omega)) rfl rfl rfl s' k
    have hll := spl_le (c := 10) (s := Lib.trimSuffix s [10])
    have hml : ∀ x ∈ spl 10 (Lib.trimSuffix s [10]), x.length ≤ 50000 := fun x hx => by have := spl_mem hx; omega
    have hne := scr_ne shF (spl_ne 10 (Lib.trimSuffix s [10]))
    generalize spl 10 (Lib.trimSuffix s [10]) = ls at *
    obtain ⟨h2, k2, a, e, b2, hE⟩ := rn_loop hG (cf := cf) (k := ⟨4, k1 + 1 + 1, 0⟩) rfl (ls := ls) (by omega) hml (line_len hG hc) (F := shF) (h := (⟨4, k1 + 1 + 1, 0⟩, .box BT [.t .np, .nl]) :: h1) (ck := k1 + 1 + 1 + 1 + 1) (ca := ca) (cb := cb) (N := 0) (fls_box (fls_le s1 (ck' := k1 + 1 + 1) (by omega)) (Nat.le_refl _) _ (by omega)) o1 (by omega) hg (KLe.lt (c := k1 + 1 + 1) (KLe.cons (kl1.le (by omega)) (Nat.le_refl _)) (by omega)) (.inl ⟨rfl, by simp [HP.get]⟩)
    obtain ⟨h3, r3⟩ := bstrR (ck := k2 + 1) b2 hne
    have q4 := fun e kk => callEv_h (C := cfg) (s := ⟨e, h2, k2⟩) rfl r3 kk
    simp only [iv, sl, slc] at q1 q2 q3 q4 hE
    have h0' : s ≠ [] := h0
    generalize (scrP shF ls).2 = W at *
    simp [hB, h0, q1, q2, q3, q4, hE, filt_tt]
theorem spl_app (c : UInt8) (b : List UInt8) : ∀ a : List UInt8, spl c (a ++ c :: b) = spl c a ++ spl c b
  | [] => by simp [spl]
  | x :: a => by
    have ih := spl_app c b a
    by_cases hx : x = c
    · simp only [List.cons_append, spl]
      rw [if_pos hx, if_pos hx, ih]; rfl
    · rw [List.cons_append, spl_cons_ne hx, spl_cons_ne hx, ih]
      cases h : spl c a with
      | nil => exact absurd h (spl_ne c a)
      | cons y l => rfl
theorem scr_app : ∀ (F : Flt) (a b : List (List UInt8)), scrP F (a ++ b) = ((scrP (scrP F a).1 b).1, (scrP F a).2 ++ (scrP (scrP F a).1 b).2)
  | F, [], b => rfl
  | F, s :: a, b => by
    rw [List.cons_append, scrP, scr_app _ a b]
    simp [scrP]
theorem trim_hit (s p : List UInt8) : Lib.trimSuffix (s ++ p) p = s := by
  unfold Lib.trimSuffix Lib.hasSuffix
  rw [if_pos (List.isSuffixOf_iff_suffix.2 (List.suffix_append s p))]
  simp
theorem trim_cases (s : List UInt8) : (∃ m, s = m ++ [10] ∧ Lib.trimSuffix s [10] = m) ∨ ((∀ m, s ≠ m ++ [10]) ∧ Lib.trimSuffix s [10] = s) := by
  by_cases h : ∃ m, s = m ++ [10]
  · obtain ⟨m, rfl⟩ := h
    exact .inl ⟨m, rfl, trim_hit m [10]⟩
  · refine .inr ⟨fun m e => h ⟨m, e⟩, ?_⟩
    unfold Lib.trimSuffix Lib.hasSuffix
    rw [if_neg]
    intro hs
    obtain ⟨m, hm⟩ := List.isSuffixOf_iff_suffix.1 hs
    exact h ⟨m, hm.symm⟩
theorem bodyB_cons (x : Int) (r : List Int) : bodyB (x :: r) = fourI x ++ bodyB r := rfl
theorem bodyB_app (a b : List Int) : bodyB (a ++ b) = bodyB a ++ bodyB b := by simp [bodyB]
theorem numB_0 (x : Int) (s : List UInt8) : numB (fourI x ++ s) 0 = (x % 4294967296).toNat := by
  obtain ⟨a, b, c, d, e1, e2⟩ := four_fourD (n := (x % 4294967296).toNat) (by omega)
  have : fourI x = [a, b, c, d] := e1
  rw [this, ← e2]
  rfl
theorem numB_s (x : Int) (s : List UInt8) (i : Nat) : numB (fourI x ++ s) (i + 1) = numB s i := by
  obtain ⟨a, b, c, d, e1, e2⟩ := four_fourD (n := (x % 4294967296).toNat) (by omega)
  have : fourI x = [a, b, c, d] := e1
  rw [this]
  unfold numB
  rw [show 4 * (i + 1) = (4 * i) + 4 by omega, show (4 * i) + 4 + 1 = (4 * i + 1) + 4 by omega, show (4 * i) + 4 + 2 = (4 * i + 2) + 4 by omega, show (4 * i) + 4 + 3 = (4 * i + 3) + 4 by omega]
  simp only [List.getD_eq_getElem?_getD, List.cons_append, List.nil_append, List.getElem?_cons_succ]
theorem numB_at : ∀ (L : List Int) (i : Nat) (hi : i < L.length), numB (bodyB L) i = (L[i] % 4294967296).toNat
  | x :: r, 0, hi => by rw [bodyB_cons, numB_0]; rfl
  | x :: r, i + 1, hi => by
    rw [bodyB_cons, numB_s, numB_at r i (by simpa using hi)]; rfl
def fullL (l : List Int) : List Int := ((4 * (l.length + 1) : Nat) : Int) :: l ++ [crcI (bodyB l)]
theorem frame_is (l : List Int) : frameB l = bodyB (fullL l) := by
  unfold frameB fullL
  rw [List.cons_append, bodyB_cons, bodyB_app, bodyB_cons]
  have : (bodyB l ++ fourI (crcI (bodyB l))).length = 4 * (l.length + 1) := by rw [List.length_append, bodyB_len, fourI_len]; omega
  rw [this]
  simp [bodyB]
theorem okS_un {v : Int} (h : okS v = true) : unsig (v % 4294967296).toNat = v := by
  simp only [okS, Bool.and_eq_true, decide_eq_true_eq] at h
  unfold unsig
  split <;> omega
theorem take_put {m : Msg} (h : wrightM m = true) : takeP (putB m) = (m, 0) := by
  have hr := h
  simp only [wrightM, nums, okN, List.all_cons, List.all_nil, Bool.and_eq_true, decide_eq_true_eq, List.all_eq_true] at hr
  obtain ⟨⟨⟨⟨⟨n0, n1, n2, n3, n4, n5, n6, n7, n8, n9, -⟩, hv⟩, k1⟩, k2⟩, k8⟩ := hr
  have hl : (numsA m).length = 11 + m.vec.length := by simp [numsA, nums]; omega
  have hf : putB m = bodyB (fullL (numsA m)) := frame_is _
  have hfl : (fullL (numsA m)).length = 13 + m.vec.length := by simp [fullL]; omega
  have hlen : (putB m).length = 4 * (13 + m.vec.length) := by rw [hf, bodyB_len, hfl]
  have hmany : manyB (putB m) = 12 + m.vec.length := by unfold manyB; rw [hlen]; omega
  have hn : ∀ i (hi : i < 13 + m.vec.length), numB (putB m) i = ((fullL (numsA m))[i]'(by omega) % 4294967296).toNat := fun i hi => by
    have := numB_at (fullL (numsA m)) i (by omega)
    rw [← hf] at this
    exact this
  have hc := crcI_in (bodyB (numsA m))
  have a0 : numB (putB m) 0 = 4 * (12 + m.vec.length) := by
    rw [hn 0 (by omega)]
    have : (fullL (numsA m))[0]'(by omega) = ((4 * ((numsA m).length + 1) : Nat) : Int) := rfl
    rw [this, hl]; omega
  have a1 : numB (putB m) 1 = m.kind.toNat := by rw [hn 1 (by omega)]; have : (fullL (numsA m))[1]'(by omega) = m.kind := rfl; rw [this]; omega
  have a2 : numB (putB m) 2 = m.fr.toNat := by rw [hn 2 (by omega)]; have : (fullL (numsA m))[2]'(by omega) = m.fr := rfl; rw [this]; omega
  have a3 : numB (putB m) 3 = m.to.toNat := by rw [hn 3 (by omega)]; have : (fullL (numsA m))[3]'(by omega) = m.to := rfl; rw [this]; omega
  have a4 : numB (putB m) 4 = m.seq.toNat := by rw [hn 4 (by omega)]; have : (fullL (numsA m))[4]'(by omega) = m.seq := rfl; rw [this]; omega
  have a5 : numB (putB m) 5 = m.batch.toNat := by rw [hn 5 (by omega)]; have : (fullL (numsA m))[5]'(by omega) = m.batch := rfl; rw [this]; omega
  have a6 : numB (putB m) 6 = m.layer.toNat := by rw [hn 6 (by omega)]; have : (fullL (numsA m))[6]'(by omega) = m.layer := rfl; rw [this]; omega
  have a7 : numB (putB m) 7 = m.token.toNat := by rw [hn 7 (by omega)]; have : (fullL (numsA m))[7]'(by omega) = m.token := rfl; rw [this]; omega
  have a8 : numB (putB m) 8 = m.rank.toNat := by rw [hn 8 (by omega)]; have : (fullL (numsA m))[8]'(by omega) = m.rank := rfl; rw [this]; omega
  have a9 : numB (putB m) 9 = m.expert.toNat := by rw [hn 9 (by omega)]; have : (fullL (numsA m))[9]'(by omega) = m.expert := rfl; rw [this]; omega
  have a10 : numB (putB m) 10 = m.epoch.toNat := by rw [hn 10 (by omega)]; have : (fullL (numsA m))[10]'(by omega) = m.epoch := rfl; rw [this]; omega
  have a11 : numB (putB m) 11 = m.vec.length := by rw [hn 11 (by omega)]; have : (fullL (numsA m))[11]'(by omega) = (m.vec.length : Int) := rfl; rw [this]; omega
  have av : ∀ i (hi : i < m.vec.length), unsig (numB (putB m) (12 + i)) = m.vec[i] := fun i hi => by
    rw [hn (12 + i) (by omega)]
    have e : (fullL (numsA m))[12 + i]? = some m.vec[i] := by
      rw [show 12 + i = i + 12 by omega]
      simp only [fullL, numsA, nums, List.cons_append, List.nil_append, List.getElem?_cons_succ]
      rw [List.getElem?_append_left hi, List.getElem?_eq_getElem hi]
    have : (fullL (numsA m))[12 + i]'(by omega) = m.vec[i] := (List.getElem?_eq_some_iff.1 e).2
    rw [this, okS_un (hv _ (List.getElem_mem hi))]
  have ac : numB (putB m) (12 + m.vec.length) = (crcI (bodyB (numsA m))).toNat := by
    rw [hn _ (by omega)]
    have : (fullL (numsA m))[12 + m.vec.length]'(by omega) = crcI (bodyB (numsA m)) := by
      simp only [fullL]
      rw [List.getElem_append_right (by simp [hl]; omega)]
      simp
    rw [this]; omega
  have hvec : vecB (putB m) = m.vec := by
    unfold vecB
    rw [hmany]
    apply List.ext_getElem
    · simp
    · intro i h1 h2
      simp only [List.getElem_map, List.getElem_range]
      exact av i h2
  have hmsg : msgB (putB m) = m := by
    unfold msgB
    rw [a1, a2, a3, a4, a5, a6, a7, a8, a9, a10, hvec]
    rw [Int.toNat_of_nonneg (show 0 ≤ m.kind by omega), Int.toNat_of_nonneg n1.1, Int.toNat_of_nonneg n2.1, Int.toNat_of_nonneg n3.1, Int.toNat_of_nonneg n4.1, Int.toNat_of_nonneg n5.1, Int.toNat_of_nonneg n6.1, Int.toNat_of_nonneg n7.1, Int.toNat_of_nonneg n8.1, Int.toNat_of_nonneg n9.1]
  have hbody : ((putB m).take (4 * (12 + m.vec.length))).drop 4 = bodyB (numsA m) := by
    unfold putB frameB
    rw [List.take_append, List.take_of_length_le (by rw [fourI_len]; omega), List.drop_left' (fourI_len _)]
    rw [List.take_append, List.take_of_length_le (by rw [fourI_len, bodyB_len, hl]; omega)]
    rw [fourI_len, bodyB_len, hl]
    rw [show 4 * (12 + m.vec.length) - 4 - 4 * (11 + m.vec.length) = 0 by omega]
    simp
  unfold takeP
  rw [if_neg (by omega), hmany, if_neg (by rw [ac, hbody]; omega), if_neg (by rw [a11, hmsg, h]; simp), hmsg]
theorem rhold_ret (n : Int) : RetT cfg 67 [iv n] (iv (hold n)) := by
  refine RetT.of ?_
  rw [runL_pf (fn := f67) rfl rfl]
  unfold hold
  by_cases h1 : 2147483647 < n
  · simp [h1]
  · by_cases h2 : n < -2147483647
    · simp [h1, h2]
    · simp [h1, h2]
theorem rhold_call (n : Int) (s : St) (k : Key) : callEv cfg (runL cfg) 67 [.t (.i .i64 n)] s k = some (.t (.i .i64 (hold n)), s.hp, s.ck) := callEv_tr (C := cfg) (rhold_ret n) rfl rfl rfl s k
theorem rhold_callq (n : Int) (hp : HP) : callQ (runL cfg) 67 [.t (.i .i64 n)] hp = some (.t (.i .i64 (hold n))) := callQ_tr (C := cfg) (rhold_ret n) rfl hp
theorem tdiv_in {x : Int} (h1 : -4611686018427387904 < x) (h2 : x < 4611686018427387904) : -4611686018427387904 ≤ x.tdiv 65536 ∧ x.tdiv 65536 ≤ 4611686018427387904 := by
  rcases Int.le_total 0 x with h | h
  · rw [Int.tdiv_eq_ediv_of_nonneg h]; omega
  · have e : x = -(-x) := by omega
    rw [e, Int.neg_tdiv, Int.tdiv_eq_ediv_of_nonneg (by omega)]; omega
theorem rmul_ret (a b : Int) : RetT cfg 68 [iv a, iv b] (iv (fmul a b)) := by
  have hm := held_mul a b
  have ha := hold_in a
  have hb := hold_in b
  have h1 := rhold_call
  have e := rmul_is a b
  rw [← e]
  unfold rmul
  refine RetT.of ?_
  rw [runL_pf (fn := f68) rfl rfl]
  have h1a := fun s k => h1 a s k
  have h1b := fun s k => h1 b s k
  generalize hold a = A at *
  generalize hold b = B at *
  have w1 : IntKind.i64.wrap (-A) = -A := wrap_id (by omega) (by omega)
  have w2 : IntKind.i64.wrap (-B) = -B := wrap_id (by omega) (by omega)
  have w3 : IntKind.i64.wrap (A * B) = A * B := wrap_id (by omega) (by omega)
  have w4 : IntKind.i64.wrap (-(A * B)) = -(A * B) := wrap_id (by omega) (by omega)
  have t1 : -4611686018427387904 ≤ (A * B).tdiv 65536 ∧ (A * B).tdiv 65536 ≤ 4611686018427387904 := tdiv_in hm.1 hm.2
  have w5 : IntKind.i64.wrap ((A * B).tdiv 65536) = (A * B).tdiv 65536 := wrap_id (by omega) (by omega)
  have w6 : IntKind.i64.wrap (-((A * B).tdiv 65536)) = -((A * B).tdiv 65536) := wrap_id (by omega) (by omega)
  by_cases c1 : A < 0
  · by_cases c2 : B < 0
    · simp [h1a, h1b, h1, c1, c2, w1, w2, Int.neg_mul_neg, w3, w5]
    · simp [h1a, h1b, h1, c1, c2, w1, w2, Int.neg_mul, w3, w4, w5, w6]
  · by_cases c2 : B < 0
    · simp [h1a, h1b, h1, c1, c2, w1, w2, Int.mul_neg, w3, w4, w5, w6]
    · simp [h1a, h1b, h1, c1, c2, w1, w2, w3, w5]
theorem rmul_callq (a b : Int) (hp : HP) : callQ (runL cfg) 68 [.t (.i .i64 a), .t (.i .i64 b)] hp = some (.t (.i .i64 (fmul a b))) := callQ_tr (C := cfg) (rmul_ret a b) rfl hp
theorem rmul_call (a b : Int) (s : St) (k : Key) : callEv cfg (runL cfg) 68 [.t (.i .i64 a), .t (.i .i64 b)] s k = some (.t (.i .i64 (fmul a b)), s.hp, s.ck) := callEv_tr (C := cfg) (rmul_ret a b) rfl rfl rfl s k
theorem rpart_ret (n : Int) : RetT cfg 141 [iv n] (iv (partP n)) := by
  refine RetT.of ?_
  rw [runL_pf (fn := f141) rfl rfl, ← partP_is n]
  by_cases h1 : n < 0
  · simp [h1]
  · by_cases h2 : 2147483647 < n
    · simp [h1, h2]
    · have hw : IntKind.i64.wrap (n + 1) = n + 1 := wrap_id (by omega) (by omega)
      simp [h1, h2, hw]
def bqI (a b : Int) (i : Nat) (s : St) : Prop := ∃ q left ck, bitsP (a + b) (16 - i) q left = bitsP (a + b) 16 0 a ∧ 0 ≤ q ∧ q < 2 ^ i ∧ 0 ≤ left ∧ left < a + b ∧ s = ⟨[(5, iv a), (6, iv b), (7, iv q), (8, iv left), (9, iv (i : Int))], [], ck⟩
def bqQ (a b : Int) (E : Option (Ex × St)) : Prop := ∃ q x y z w ck, bitsP (a + b) 16 0 a = q ∧ E = some (.exit 0, ⟨[(5, x), (6, y), (7, iv q), (8, z), (9, w), (16, bv false)], [], ck⟩)
theorem bq_loop (a b : Int) (ha : 1 ≤ a ∧ a ≤ 2147483648) (hb : 1 ≤ b ∧ b ≤ 2147483648) (ck : Nat) : bqQ a b (evL cfg (.loop f110l0) ⟨[(5, iv a), (6, iv b), (7, iv 0), (8, iv a), (9, iv 0)], [], ck⟩) := by
  refine loop_q 16 (bqI a b) ?_ ?_ _ ⟨0, a, ck, rfl, by omega, by simp, by omega, by omega, rfl⟩
  · rintro i s hi ⟨q, left, ck, h1, h2, h3, h4, h5, rfl⟩
    have hw : IntKind.i64.wrap ((i : Int) + 1) = (i : Int) + 1 := wrap_id (by omega) (by omega)
    have hi' : (i : Int) < 16 := by omega
    have hp : (2 : Int) ^ i ≤ 32768 := by
      have : i ≤ 15 := by omega
      calc (2 : Int) ^ i ≤ 2 ^ 15 := by exact_mod_cast Nat.pow_le_pow_right (by decide) this
        _ = 32768 := by decide
    have hp2 : (2 : Int) ^ (i + 1) = 2 * 2 ^ i := by rw [Int.pow_succ]; omega
    have w1 : IntKind.i64.wrap (2 * q) = 2 * q := wrap_id (by omega) (by omega)
    have w2 : IntKind.i64.wrap (2 * left) = 2 * left := wrap_id (by omega) (by omega)
    have w3 : IntKind.i64.wrap (a + b) = a + b := wrap_id (by omega) (by omega)
    have w4 : IntKind.i64.wrap (2 * q + 1) = 2 * q + 1 := wrap_id (by omega) (by omega)
    have w5 : IntKind.i64.wrap (2 * left - (a + b)) = 2 * left - (a + b) := wrap_id (by omega) (by omega)
    have e : 16 - i = (16 - (i + 1)) + 1 := by omega
    rw [e] at h1
    unfold bitsP at h1
    by_cases c : a + b ≤ 2 * left
    · rw [if_pos c] at h1
      simp [f110l0e, hi', w1, w2, w3, w4, w5, hw, c]
      exact ⟨_, _, _, h1, by omega, by omega, by omega, by omega, rfl⟩
    · rw [if_neg c] at h1
      simp [f110l0e, hi', w1, w2, w3, w4, w5, hw, c]
      exact ⟨_, _, _, h1, by omega, by omega, by omega, by omega, rfl⟩
  · rintro s ⟨q, left, ck, h1, h2, h3, h4, h5, rfl⟩
    simp [f110l0e]
    exact ⟨_, _, _, _, _, _, h1.symm, rfl⟩
theorem rshare_ret (a b : Int) : RetT cfg 110 [iv a, iv b] (iv (shareP a b)) := by
  have h1 := fun n s k => callEv_tr (C := cfg) (rpart_ret n) rfl rfl rfl s k
  have ha := partP_in a
  have hb := partP_in b
  rw [← share_is a b]
  obtain ⟨q, x, y, z, w, ck, e, hL⟩ := bq_loop (partP a) (partP b) ha hb 4
  rw [e]
  simp only [iv, bv] at h1 hL
  refine RetT.of ?_
  rw [runL_pf (fn := f110) rfl rfl]
  simp [h1, hL]
def rdI (a b : List Int) (i : Nat) (s : St) : Prop := ∃ x ck, dot (a.drop i) (b.drop i) x = dot a b 0 ∧ -2147483647 ≤ x ∧ x ≤ 2147483647 ∧ s = ⟨[(0, .t (il a)), (1, .t (il b)), (5, iv x), (6, iv (i : Int))], [], ck⟩
def rdQ (a b : List Int) (E : Option (Ex × St)) : Prop := ∃ x y z w ck, E = some (.exit 0, ⟨[(0, x), (1, y), (5, iv (dot a b 0)), (6, z), (10, w)], [], ck⟩)
theorem rdot_ret (a b : List Int) (hab : a.length = b.length) (hl : a.length ≤ 1000000) : RetT cfg 112 [.t (il a), .t (il b)] (iv (dot a b 0)) := by
  have hL : ∀ ck, rdQ a b (evL cfg (.loop f112l0) ⟨[(0, .t (il a)), (1, .t (il b)), (5, iv 0), (6, iv 0)], [], ck⟩) := by
    intro ck
    refine loop_q a.length (rdI a b) ?_ ?_ _ ⟨0, ck, rfl, by omega, by omega, rfl⟩
    · rintro i s hi ⟨x, ck, h1, h2, h3, rfl⟩
      have hw : IntKind.i64.wrap ((i : Int) + 1) = (i : Int) + 1 := wrap_id (by omega) (by omega)
      have hib : i < b.length := by omega
      have hf : -2147483647 ≤ fmul a[i] b[i] ∧ fmul a[i] b[i] ≤ 2147483647 := hold_in _
      have w2 : IntKind.i64.wrap (x + fmul a[i] b[i]) = x + fmul a[i] b[i] := wrap_id (by omega) (by omega)
      rw [List.drop_eq_getElem_cons hi, List.drop_eq_getElem_cons hib] at h1
      have e : dot (a[i] :: a.drop (i + 1)) (b[i] :: b.drop (i + 1)) x = dot (a.drop (i + 1)) (b.drop (i + 1)) (hold (hold x + hold (fmul a[i] b[i]))) := rfl
      rw [e, hold_id ⟨h2, h3⟩, hold_id hf] at h1
      have hh := hold_in (x + fmul a[i] b[i])
      simp [f112l0e, il, hi, hib, rmul_callq, rhold_callq, w2, hw]
      exact ⟨_, _, h1, hh.1, hh.2, rfl⟩
    · rintro s ⟨x, ck, h1, h2, h3, rfl⟩
      rw [List.drop_of_length_le (Nat.le_refl _)] at h1
      have e : x = dot a b 0 := by rw [← h1]; simp [dot]
      subst e
      simp [f112l0e, il]
      exact ⟨_, _, _, _, _, rfl⟩
  obtain ⟨x, y, z, w, ck, hc⟩ := hL 3
  refine RetT.of ?_
  rw [runL_pf (fn := f112) rfl rfl]
  simp [il] at hc
  simp [il, hc]
def raQ (m : List (List Int)) (v : List Int) (E : Option (Ex × St)) : Prop :=
  (matOk m v.length = true ∧ ∃ c o ck, E = some (.exit 0, ⟨[(0, .t (gl m)), (1, .t (il v)), (6, .ow ⟨6, c, o⟩ 1 0 m.length), (7, iv m.length), (11, bv false)], [(⟨6, c, o⟩, .row 3 1 (cl (scoresP m v)) false)], ck⟩)) ∨
  (matOk m v.length = false ∧ ∃ c r ck, E = some (.ret, ⟨[(4, .ow ⟨4, c, 0⟩ 1 0 0), (5, bv false)], (⟨4, c, 0⟩, .row 3 1 [] false) :: r, ck⟩))
def raP (m : List (List Int)) (v : List Int) (i : Nat) (s : St) : Prop := ∃ c o ck els, els = cl ((scoresP m v).take i) ∧ (∀ (j : Nat) (hj : j < m.length), j < i → m[j].length = v.length) ∧ s = ⟨[(0, .t (gl m)), (1, .t (il v)), (6, .ow ⟨6, c, o⟩ 1 0 i), (7, iv (i : Int))], [(⟨6, c, o⟩, .row 3 1 els false)], ck⟩
theorem rapply_ret (m : List (List Int)) (v : List Int) (hl : m.length ≤ 1000000) (hv : v.length ≤ 1000000) : RetT cfg 69 [.t (gl m), .t (il v)] (.tu [.t (il (if matOk m v.length then scoresP m v else [])), bv (matOk m v.length)]) := by
  have hL : ∀ c o ck, raQ m v (evL cfg (.loop f69l0) ⟨[(0, .t (gl m)), (1, .t (il v)), (6, .ow ⟨6, c, o⟩ 1 0 0), (7, iv 0)], [(⟨6, c, o⟩, .row 3 1 [] false)], ck⟩) := by
    intro c o ck
    refine loop_q m.length (raP m v) ?_ ?_ _ ⟨c, o, ck, [], rfl, fun j hj h => absurd h (Nat.not_lt_zero j), rfl⟩
    · rintro i s hi ⟨c, o, ck, els, h1, h2, rfl⟩
      have hw : IntKind.i64.wrap ((i : Int) + 1) = (i : Int) + 1 := wrap_id (by omega) (by omega)
      have hlen : els.length = i := by rw [h1]; simp [cl, scoresP]; omega
      have hb : (i + 1) * 8 ≤ 140737488355328 := by omega
      by_cases hx : m[i].length = v.length
      · have hd := fun s k => callEv_tr (C := cfg) (rdot_ret m[i] v hx (by omega)) rfl rfl rfl s k
        simp only [il, iv] at hd
        have hxi : ((m[i].length : Int) != (v.length : Int)) = false := by simp [hx]
        have ht : cl ((scoresP m v).take (i + 1)) = cl ((scoresP m v).take i) ++ [[.i .i64 (dot m[i] v 0)]] := by
          rw [List.take_succ_eq_append_getElem (by simpa [scoresP] using hi)]
          simp [cl, scoresP]
        simp [f69l0e, il, gl, hi, hw, hd, hxi, rowsOf, keysOfs, treesC, treesOf, treeOf, freezeAll, app, elsOf, over, hb, hlen]
        refine ⟨_, _, _, _, by rw [ht, h1], fun j hj hji => ?_, rfl⟩
        by_cases e : j = i
        · subst e; exact hx
        · exact h2 j hj (by omega)
      · have hno : matOk m v.length = false := by
          unfold matOk
          rw [List.all_eq_false]
          exact ⟨m[i], List.getElem_mem hi, by simpa using hx⟩
        have hxi : ((m[i].length : Int) != (v.length : Int)) = true := by simp; omega
        simp [f69l0e, il, gl, hi, hw, hxi]
        exact .inr ⟨hno, _, _, _, rfl⟩
    · rintro s ⟨c, o, ck, els, h1, h2, rfl⟩
      have h3 : (scoresP m v).take m.length = scoresP m v := List.take_of_length_le (by simp [scoresP])
      rw [h3] at h1
      subst h1
      have hok : matOk m v.length = true := by
        unfold matOk
        rw [List.all_eq_true]
        intro l hl
        obtain ⟨j, hj, rfl⟩ := List.getElem_of_mem hl
        simpa using h2 j hj hj
      simp [f69l0e, gl]
      exact .inl ⟨hok, _, _, _, rfl⟩
  have hq := hL 1 0 3
  rw [retT_r, runL_pf (fn := f69) rfl rfl]
  rcases hq with ⟨hok, c, o, ck, hc⟩ | ⟨hok, c, r, ck, hc⟩
  · simp [il, gl] at hc
    simp [il, gl, hc, hok, resOf, resOfs, resOf1, treeOf, cl, List.take_of_length_le, scoresP]
  · simp [il, gl] at hc
    simp [il, gl, hc, hok, resOf, resOfs, resOf1, treeOf]
def rkC (v : List Int) (at_ i : Nat) : Nat := ((List.range i).filter fun j => ahead v at_ j).length
theorem rkC_s (v : List Int) (at_ i : Nat) : rkC v at_ (i + 1) = rkC v at_ i + if ahead v at_ i then 1 else 0 := by
  unfold rkC
  rw [List.range_succ, List.filter_append, List.length_append]
  cases h : ahead v at_ i <;> simp [h]
theorem rkC_le (v : List Int) (at_ : Nat) : ∀ i, rkC v at_ i ≤ i := fun i => by
  have := List.length_filter_le (fun j => ahead v at_ j) (List.range i)
  rw [List.length_range] at this
  exact this
def rkI (v : List Int) (at_ : Nat) (i : Nat) (s : St) : Prop := ∃ ck, s = ⟨[(0, .t (il v)), (1, iv at_), (5, iv (rkC v at_ i : Nat)), (6, iv (i : Int))], [], ck⟩
def rkQ (v : List Int) (at_ : Nat) (E : Option (Ex × St)) : Prop := ∃ x y z w ck, E = some (.exit 0, ⟨[(0, x), (1, y), (5, iv (rankP v at_ : Nat)), (6, z), (10, w)], [], ck⟩)
theorem rrank_ret (v : List Int) (at_ : Nat) (ha : at_ < v.length) (hl : v.length ≤ 1000000) : RetT cfg 140 [.t (il v), iv at_] (iv (rankP v at_ : Nat)) := by
  have hL : ∀ ck, rkQ v at_ (evL cfg (.loop f140l0) ⟨[(0, .t (il v)), (1, iv at_), (5, iv 0), (6, iv 0)], [], ck⟩) := by
    intro ck
    refine loop_q v.length (rkI v at_) ?_ ?_ _ ⟨ck, rfl⟩
    · rintro i s hi ⟨ck, rfl⟩
      have hw : IntKind.i64.wrap ((i : Int) + 1) = (i : Int) + 1 := wrap_id (by omega) (by omega)
      have hr := rkC_le v at_ i
      have hw2 : IntKind.i64.wrap ((rkC v at_ i : Int) + 1) = (rkC v at_ i : Int) + 1 := wrap_id (by omega) (by omega)
      have hs := rkC_s v at_ i
      have ga : v.getD at_ 0 = v[at_] := by simp [List.getD_eq_getElem?_getD, ha]
      have gi : v.getD i 0 = v[i] := by simp [List.getD_eq_getElem?_getD, hi]
      have hA : ahead v at_ i = (decide (v[at_] < v[i]) || (decide (v[i] = v[at_]) && decide (i < at_))) := by unfold ahead; rw [ga, gi]
      by_cases c1 : v[at_] < v[i]
      · have e : rkC v at_ (i + 1) = rkC v at_ i + 1 := by rw [hs, hA]; simp [c1]
        simp [f140l0e, il, hi, ha, c1, hw, hw2]
        exact ⟨_, by rw [e]; rfl⟩
      · by_cases c2 : v[i] = v[at_]
        · by_cases c3 : i < at_
          · have e : rkC v at_ (i + 1) = rkC v at_ i + 1 := by rw [hs, hA]; simp [c2, c3]
            have c2' : (v[i] == v[at_]) = true := by simpa using c2
            simp [f140l0e, il, hi, ha, c1, c2', c3, hw, hw2]
            exact ⟨_, by rw [e]; rfl⟩
          · have e : rkC v at_ (i + 1) = rkC v at_ i := by rw [hs, hA]; simp [c1, c3]
            have c2' : (v[i] == v[at_]) = true := by simpa using c2
            simp [f140l0e, il, hi, ha, c1, c2', c3, hw, hw2]
            exact ⟨_, by rw [e]; rfl⟩
        · have e : rkC v at_ (i + 1) = rkC v at_ i := by rw [hs, hA]; simp [c1, c2]
          have c2' : (v[i] == v[at_]) = false := by simpa using c2
          simp [f140l0e, il, hi, ha, c1, c2', hw, hw2]
          exact ⟨_, by rw [e]; rfl⟩
    · rintro s ⟨ck, rfl⟩
      simp [f140l0e, il]
      exact ⟨_, _, _, _, _, rfl⟩
  obtain ⟨x, y, z, w, ck, hc⟩ := hL 3
  refine RetT.of ?_
  rw [runL_pf (fn := f140) rfl rfl]
  simp [il] at hc
  simp [il, hc]
theorem of_some {v : List Int} {rank i : Nat} (hi : i < v.length) (h1 : rankP v i = rank) (h2 : ∀ j, j < i → rankP v j ≠ rank) : ofP v rank = i := by
  have : (List.range v.length).find? (fun i => rankP v i == rank) = some i := by
    rw [List.find?_range_eq_some]
    refine ⟨by simpa using h1, by simpa using hi, fun j hj => by simpa using h2 j hj⟩
  unfold ofP
  rw [this]
def ofI (v : List Int) (rank : Nat) (i : Nat) (s : St) : Prop := (∀ j, j < i → rankP v j ≠ rank) ∧ ∃ ck, s = ⟨[(0, .t (il v)), (1, iv rank), (5, iv (i : Int))], [], ck⟩
def ofQ (v : List Int) (rank : Nat) (E : Option (Ex × St)) : Prop := (∃ ck, E = some (.ret, ⟨[(4, iv (ofP v rank))], [], ck⟩)) ∨ (ofP v rank = -1 ∧ ∃ e ck, E = some (.exit 0, ⟨e, [], ck⟩))
theorem rof_ret (v : List Int) (rank : Nat) (hl : v.length ≤ 1000000) : RetT cfg 109 [.t (il v), iv rank] (iv (ofP v rank)) := by
  have hL : ∀ ck, ofQ v rank (evL cfg (.loop f109l0) ⟨[(0, .t (il v)), (1, iv rank), (5, iv 0)], [], ck⟩) := by
    intro ck
    refine loop_q v.length (ofI v rank) ?_ ?_ _ ⟨fun j h => absurd h (Nat.not_lt_zero j), ck, rfl⟩
    · rintro i s hi ⟨h1, ck, rfl⟩
      have hw : IntKind.i64.wrap ((i : Int) + 1) = (i : Int) + 1 := wrap_id (by omega) (by omega)
      have hr := fun s k => callEv_tr (C := cfg) (rrank_ret v i hi hl) rfl rfl rfl s k
      simp only [il, iv] at hr
      by_cases c : rankP v i = rank
      · have c' : ((rankP v i : Int) == (rank : Int)) = true := by simp [c]
        have e := of_some hi c h1
        rw [c] at hr
        simp [f109l0e, il, hi, hr]
        exact .inl ⟨_, by rw [e]; rfl⟩
      · have c' : ((rankP v i : Int) == (rank : Int)) = false := by simp; omega
        simp [f109l0e, il, hi, hr, c', hw]
        exact ⟨fun j hj => by
          by_cases e : j = i
          · subst e; exact c
          · exact h1 j (by omega), _, rfl⟩
    · rintro s ⟨h1, ck, rfl⟩
      simp [f109l0e, il]
      exact .inr ⟨of_none h1, _, _, rfl⟩
  refine RetT.of ?_
  rw [runL_pf (fn := f109) rfl rfl]
  rcases hL 2 with ⟨ck, hc⟩ | ⟨h1, e, ck, hc⟩
  · simp [il] at hc
    simp [il, hc]
  · rw [h1]
    simp [il] at hc
    simp [il, hc]
theorem rchoose_ret (rows : List (List Int)) (v : List Int) (hr : Few rows) (hv : v.length ≤ 1000000) : RetT cfg 65 [.t (gl rows), .t (il v)] (.tu [.ag (choC (choP rows v)), bv (choOk rows v)]) := by
  have hA := fun s k => callEv_tr (C := cfg) (rapply_ret rows v hr.1 hv) rfl rfl rfl s k
  rw [retT_r, runL_pf (fn := f65) rfl rfl]
  by_cases hok : matOk rows v.length = true
  case neg =>
    have hok' : matOk rows v.length = false := by simpa using hok
    rw [hok'] at hA
    have e : choP rows v = ⟨0, 0, 0, 0⟩ := by unfold choP; rw [if_pos (.inl hok')]
    simp only [gl, il, bv] at hA
    simp [gl, il, hA, e, choOk, hok', choC, over, buildV, resOf, resOfs, resOf1, treesOf, treeOf]
  rw [hok] at hA
  by_cases hn : rows = []
  · subst hn
    have e : choP [] v = ⟨0, 0, 0, 0⟩ := by unfold choP; rw [if_pos (.inr rfl)]
    simp only [gl, il, bv] at hA
    simp [gl, il, scoresP] at hA
    simp [gl, il, hA, e, choOk, hok, choC, over, buildV, resOf, resOfs, resOf1, treesOf, treeOf]
  have hl0 : ¬ rows.length = 0 := fun e => hn (List.length_eq_zero_iff.1 e)
  have hb0 : ((rows.length : Int) == 0) = false := by simp [hn]
  have hie : rows.isEmpty = false := by cases rows with
    | nil => exact absurd rfl hn
    | cons _ _ => rfl
  have hlen : (scoresP rows v).length = rows.length := by simp [scoresP]
  have hsn : scoresP rows v ≠ [] := fun e => hl0 (by rw [← hlen, e]; rfl)
  have hsl : ((scoresP rows v).length : Int) = rows.length := by rw [hlen]
  have hT0 := fun s k => callEv_tr (C := cfg) (rof_ret (scoresP rows v) 0 (by rw [hlen]; exact hr.1)) rfl rfl rfl s k
  have hT1 := fun s k => callEv_tr (C := cfg) (rof_ret (scoresP rows v) 1 (by rw [hlen]; exact hr.1)) rfl rfl rfl s k
  have p1 := (two_in hsn).1
  have p3 := (two_in hsn).2
  have e : choP rows v = if 0 ≤ (twoP (scoresP rows v)).2 then ⟨(twoP (scoresP rows v)).1, (twoP (scoresP rows v)).2, shareP ((scoresP rows v).getD (twoP (scoresP rows v)).1.toNat 0) ((scoresP rows v).getD (twoP (scoresP rows v)).2.toNat 0), 65536 - shareP ((scoresP rows v).getD (twoP (scoresP rows v)).1.toNat 0) ((scoresP rows v).getD (twoP (scoresP rows v)).2.toNat 0)⟩ else ⟨(twoP (scoresP rows v)).1, (twoP (scoresP rows v)).2, 65536, 0⟩ := by
    unfold choP; rw [if_neg (by rw [hok]; simp [hn])]
  have hab := two_is hsn
  rw [e]
  clear e
  generalize scoresP rows v = sc at hT0 hT1 hA p1 p3 hlen hsn hsl hab ⊢
  rw [hab] at p1 p3 ⊢
  generalize ofP sc 0 = a at *
  generalize ofP sc 1 = b at *
  simp only at p1 p3 ⊢
  obtain ⟨x, rfl⟩ : ∃ x : Nat, a = x := ⟨a.toNat, by omega⟩
  have hx : x < sc.length := by omega
  have gx : sc.getD x 0 = sc[x] := by simp [List.getD_eq_getElem?_getD, hx]
  simp only [Int.natCast_zero, Int.natCast_one] at hT0 hT1
  by_cases hb : 0 ≤ b
  · obtain ⟨y, rfl⟩ : ∃ y : Nat, b = y := ⟨b.toNat, by omega⟩
    have hy : y < sc.length := by omega
    have gy : sc.getD y 0 = sc[y] := by simp [List.getD_eq_getElem?_getD, hy]
    have hS := fun hp => callQ_tr (C := cfg) (rshare_ret sc[x] sc[y]) rfl hp
    have hsh : 0 ≤ shareP sc[x] sc[y] ∧ shareP sc[x] sc[y] ≤ 65536 := share_mul _ _
    have hw : IntKind.i64.wrap (65536 - shareP sc[x] sc[y]) = 65536 - shareP sc[x] sc[y] := wrap_id (by omega) (by omega)
    rw [if_pos hb]
    simp only [Int.toNat_natCast, gx, gy]
    simp only [gl, il, iv, bv, if_true] at hA hT0 hT1 hS
    simp [gl, il, hA, hT0, hT1, hS, hb0, hie, hok, hb, hx, hy, hsl, hw, choOk, choC, over, buildV, resOf, resOfs, resOf1, treesOf, treeOf]
  · rw [if_neg hb]
    have hw : IntKind.i64.wrap 0 = 0 := by decide
    simp only [gl, il, iv, bv, if_true] at hA hT0 hT1
    simp [gl, il, hA, hT0, hT1, hb0, hie, hok, hb, hx, hsl, hw, choOk, choC, over, buildV, resOf, resOfs, resOf1, treesOf, treeOf]
def isX (x y : Int) : Nat := if y = x then 1 else 0
def cntT (ws : List (Int × Int)) (x : Int) (i : Nat) : Nat := ((ws.take i).map fun c => isX x c.1 + isX x c.2).sum
theorem cntT_s {ws : List (Int × Int)} {x : Int} {i : Nat} (hi : i < ws.length) : cntT ws x (i + 1) = cntT ws x i + (isX x ws[i].1 + isX x ws[i].2) := by
  unfold cntT
  rw [List.take_succ_eq_append_getElem hi, List.map_append, List.sum_append]
  simp
theorem isX_le (x y : Int) : isX x y ≤ 1 := by unfold isX; split <;> omega
theorem cntT_le {ws : List (Int × Int)} {x : Int} : ∀ (i : Nat), i ≤ ws.length → cntT ws x i ≤ 2 * i
  | 0, _ => by simp [cntT]
  | i + 1, h => by
    have := cntT_le (ws := ws) (x := x) i (by omega)
    rw [cntT_s (by omega)]
    have a := isX_le x ws[i].1
    have b := isX_le x ws[i].2
    omega
def aheadN (ws : List (Int × Int)) (t r : Nat) (x : Int) : Nat := cntT ws x t + if 0 < r then isX x (ws.getD t (0, 0)).1 else 0
def ahQ (ws : List (Int × Int)) (t r : Nat) (x : Int) (i n : Nat) (E : Option (Ex × St)) : Prop := ∃ w ck, E = some (.exit 2, ⟨[(0, .t (prl ws)), (1, iv t), (2, iv r), (3, iv x), (9, iv (n : Nat)), (10, iv i), (11, iv 2), (18, w)], [], ck⟩)
theorem ah_in {ws : List (Int × Int)} {t r : Nat} {x : Int} {i : Nat} (hi : i < ws.length) (hr : r ≤ 1) (hit : i ≤ t) (n ck : Nat) (hn : n ≤ 1000000) : ahQ ws t r x i (n + if i < t then isX x ws[i].1 + isX x ws[i].2 else if 0 < r then isX x ws[i].1 else 0) (evL cfg (.loop f111l0) ⟨[(0, .t (prl ws)), (1, iv t), (2, iv r), (3, iv x), (9, iv n), (10, iv i), (11, iv 0)], [], ck⟩) := by
  have hw1 : IntKind.i64.wrap ((n : Int) + 1) = (n : Int) + 1 := wrap_id (by omega) (by omega)
  have hw2 : IntKind.i64.wrap ((n : Int) + 1 + 1) = (n : Int) + 1 + 1 := wrap_id (by omega) (by omega)
  have d1 : IntKind.i64.wrap 1 = 1 := by decide
  have d2 : IntKind.i64.wrap 2 = 2 := by decide
  have hr1 : ¬ 1 < r := by omega
  have hr2 : ¬ (1 : Int) < r := by omega
  generalize hp : ws[i] = p at *
  obtain ⟨p1, p2⟩ := p
  unfold isX ahQ
  simp only
  have key : ∀ (b1 b2 : Bool), (p1 == x) = b1 → (p2 == x) = b2 → ∃ w ck', evL cfg (.loop f111l0) ⟨[(0, .t (prl ws)), (1, iv t), (2, iv r), (3, iv x), (9, iv n), (10, iv i), (11, iv 0)], [], ck⟩ = some (.exit 2, ⟨[(0, .t (prl ws)), (1, iv t), (2, iv r), (3, iv x), (9, iv ((n + (if b1 && (decide (i < t) || decide (0 < r)) then 1 else 0) + (if b2 && decide (i < t) then 1 else 0) : Nat) : Int)), (10, iv i), (11, iv 2), (18, w)], [], ck'⟩) := by
    intro b1 b2 e1 e2
    by_cases c3 : i < t <;> by_cases c4 : 0 < r <;> cases b1 <;> cases b2 <;> (
      rw [evL_loop]
      simp [f111l0e, prl, prT, hi, hp, e1, e2, c3, c4, hw1, d1]
      rw [evL_loop]
      simp [f111l0e, prl, prT, hi, hp, e1, e2, c3, c4, hr1, hr2, hw1, hw2, d1, d2]
      rw [evL_loop]
      simp [f111l0e, prl, prT, hi, hp, e1, e2, c3, c4, hr1, hr2, hw1, hw2, d1, d2])
  obtain ⟨w, ck', h⟩ := key _ _ rfl rfl
  refine ⟨w, ck', ?_⟩
  rw [h]
  by_cases c1 : p1 = x <;> by_cases c2 : p2 = x <;> by_cases c3 : i < t <;> by_cases c4 : 0 < r <;> simp [c1, c2, c3, c4] <;> omega
def accN (ws : List (Int × Int)) (t r : Nat) (x : Int) (i : Nat) : Nat := if i ≤ t then cntT ws x i else aheadN ws t r x
theorem accN_s {ws : List (Int × Int)} {t r : Nat} {x : Int} {i : Nat} (hi : i ≤ t) (ht : t < ws.length) (hil : i < ws.length) : accN ws t r x (i + 1) = accN ws t r x i + if i < t then isX x ws[i].1 + isX x ws[i].2 else if 0 < r then isX x ws[i].1 else 0 := by
  unfold accN
  rw [if_pos hi]
  by_cases c : i < t
  · rw [if_pos (by omega), if_pos c, cntT_s hil]
  · have e : i = t := by omega
    subst e
    rw [if_neg (by omega), if_neg c]
    unfold aheadN
    have g : ws.getD i (0, 0) = ws[i] := by simp [List.getD_eq_getElem?_getD, hil]
    rw [g]
def ahI (ws : List (Int × Int)) (t r : Nat) (x : Int) (i : Nat) (s : St) : Prop := ∃ ck, s = ⟨[(0, .t (prl ws)), (1, iv t), (2, iv r), (3, iv x), (9, iv (accN ws t r x i : Nat)), (10, iv i)], [], ck⟩
theorem ahead_ret (ws : List (Int × Int)) (t r : Nat) (x : Int) (ht : t < ws.length) (hr : r ≤ 1) (hl : ws.length ≤ 100000) : RetT cfg 111 [.t (prl ws), iv t, iv r, iv x] (iv (aheadN ws t r x : Nat)) := by
  have hL : ∀ ck, ∃ e ck', evL cfg (.loop f111l1) ⟨[(0, .t (prl ws)), (1, iv t), (2, iv r), (3, iv x), (9, iv 0), (10, iv 0)], [], ck⟩ = some (.exit 0, ⟨e, [], ck'⟩) ∧ Env.get e 9 = iv (aheadN ws t r x : Nat) := by
    intro ck
    refine loop_q (Q := fun E => ∃ e ck', E = some (.exit 0, ⟨e, [], ck'⟩) ∧ Env.get e 9 = iv (aheadN ws t r x : Nat)) (t + 1) (ahI ws t r x) ?_ ?_ _ ⟨ck, by simp [accN, cntT]⟩
    · rintro i s hi ⟨ck, rfl⟩
      have hw : IntKind.i64.wrap ((i : Int) + 1) = (i : Int) + 1 := wrap_id (by omega) (by omega)
      have hle : accN ws t r x i ≤ 2 * i := by
        unfold accN
        rw [if_pos (by omega)]
        exact cntT_le i (by omega)
      have hil : i < ws.length := by omega
      have hit : (i : Int) ≤ t := by omega
      obtain ⟨w, ck', hc⟩ := ah_in (x := x) hil hr (by omega : i ≤ t) (accN ws t r x i) (ck + 1 + 1) (by omega)
      rw [← accN_s (by omega) ht hil] at hc
      simp [prl] at hc
      simp [f111l1e, prl, hit, hc, hw, (by omega : i ≤ t), ahI]
    · rintro s ⟨ck, rfl⟩
      have e : accN ws t r x (t + 1) = aheadN ws t r x := by unfold accN; rw [if_neg (by omega)]
      rw [e]
      have hn : ¬ ((t : Int) + 1 ≤ t) := by omega
      simp [f111l1e, hn]
  obtain ⟨e, ck, hc, h9⟩ := hL 3
  refine RetT.of ?_
  rw [runL_pf (fn := f111) rfl rfl]
  simp [prl] at hc h9
  simp [prl, hc, h9]
def wishN (ws : List (Int × Int)) (t r : Nat) : Int := if r = 0 then (ws.getD t (0, 0)).1 else (ws.getD t (0, 0)).2
def slotN (e cap : Int) (ws : List (Int × Int)) (t r : Nat) : Int := if wishN ws t r < 0 ∨ e ≤ wishN ws t r ∨ cap ≤ (aheadN ws t r (wishN ws t r) : Nat) then -1 else (aheadN ws t r (wishN ws t r) : Nat)
theorem rslot_ret (ws : List (Int × Int)) (e cap : Int) (t r : Nat) (ht : t < ws.length) (hr : r ≤ 1) (hl : ws.length ≤ 100000) : RetT cfg 66 [.t (prl ws), iv e, iv cap, iv t, iv r] (iv (slotN e cap ws t r)) := by
  have hA := fun x s k => callEv_tr (C := cfg) (ahead_ret ws t r x ht hr hl) rfl rfl rfl s k
  have g : ws.getD t (0, 0) = ws[t] := by simp [List.getD_eq_getElem?_getD, ht]
  refine RetT.of ?_
  rw [runL_pf (fn := f66) rfl rfl]
  unfold slotN
  have hx : wishN ws t r = if r = 0 then ws[t].1 else ws[t].2 := by unfold wishN; rw [g]
  have hr' : r = 0 ∨ r = 1 := by omega
  generalize hp : ws[t] = p at *
  obtain ⟨p1, p2⟩ := p
  simp only [prl, iv] at hA
  rcases hr' with rfl | rfl
  · simp only [if_true] at hx
    rw [hx]
    simp only [Int.natCast_zero] at hA
    have d0 : IntKind.i64.wrap 0 = 0 := by decide
    by_cases c1 : p1 < 0
    · simp [prl, prT, ht, hp, hA, c1]
    · by_cases c2 : e ≤ p1
      · simp [prl, prT, ht, hp, hA, c1, c2]
      · by_cases c3 : cap ≤ (aheadN ws t 0 p1 : Nat)
        · simp [prl, prT, ht, hp, hA, c1, c2, c3]
        · simp [prl, prT, ht, hp, hA, c1, c2, c3]
  · simp only [if_neg (by decide : ¬ (1 : Nat) = 0)] at hx
    rw [hx]
    simp only [Int.natCast_one] at hA
    by_cases c1 : p2 < 0
    · simp [prl, prT, ht, hp, hA, c1]
    · by_cases c2 : e ≤ p2
      · simp [prl, prT, ht, hp, hA, c1, c2]
      · by_cases c3 : cap ≤ (aheadN ws t 1 p2 : Nat)
        · simp [prl, prT, ht, hp, hA, c1, c2, c3]
        · simp [prl, prT, ht, hp, hA, c1, c2, c3]
theorem give_cnt {e cap : Int} {g : Cnt} {n : Nat} {x y : Int} (h1 : 0 ≤ x) (h2 : x < e) (hg : g x = min (n : Int) cap) (hc : 0 ≤ cap) : give1 e cap g y x = min ((n + isX x y : Nat) : Int) cap := by
  unfold give1 isX
  by_cases c : y = x
  · subst c
    by_cases m : may1 e cap g y = true
    · rw [if_pos m]
      simp only [may1, Bool.and_eq_true, decide_eq_true_eq] at m
      simp only [if_true]
      omega
    · rw [if_neg m]
      simp only [may1, Bool.and_eq_true, decide_eq_true_eq] at m
      simp only [if_true]
      omega
  · have c' : ¬ x = y := fun e => c e.symm
    rw [if_neg c]
    split
    · simp only [if_neg c', Nat.add_zero]; exact hg
    · simpa using hg
theorem asg_get {e k : Int} : ∀ (l : List (Int × Int)) (g : Cnt) (i : Nat) (hi : i < l.length), (asg e k g l)[i]'(by rw [asg_len]; exact hi) = (slot1 e k (asgC e k g (l.take i)) l[i].1, slot1 e k (give1 e k (asgC e k g (l.take i)) l[i].1) l[i].2)
  | c :: r, g, 0, hi => by simp [asg, asgC]
  | c :: r, g, i + 1, hi => by
    simp only [asg, List.getElem_cons_succ, List.take_succ_cons, asgC]
    exact asg_get r _ i (by simpa using hi)
theorem asg_cnt {e cap : Int} (hc : 0 ≤ cap) {ws : List (Int × Int)} {x : Int} (h1 : 0 ≤ x) (h2 : x < e) : ∀ t, t ≤ ws.length → asgC e cap g0 (ws.take t) x = min (cntT ws x t : Int) cap
  | 0, _ => by simp [asgC, g0, cntT]; omega
  | t + 1, h => by
    have ih := asg_cnt hc (ws := ws) h1 h2 t (by omega)
    rw [(asg_take e cap ws g0 t (by omega)).2, cntT_s (by omega)]
    have a := give_cnt (y := ws[t].1) h1 h2 ih hc
    have b := give_cnt (y := ws[t].2) h1 h2 a hc
    rw [b, Nat.add_assoc]
theorem slot_cnt {e cap : Int} {g : Cnt} {n : Nat} {x : Int} (hc : 0 ≤ cap) (hg : 0 ≤ x → x < e → g x = min (n : Int) cap) : slot1 e cap g x = if x < 0 ∨ e ≤ x ∨ cap ≤ (n : Int) then -1 else (n : Int) := by
  unfold slot1 may1
  by_cases c1 : 0 ≤ x
  · by_cases c2 : x < e
    · have := hg c1 c2
      by_cases c3 : cap ≤ (n : Int)
      · rw [if_neg (by simp; omega), if_pos (by omega)]
      · rw [if_pos (by simp; omega), if_neg (by omega)]; omega
    · rw [if_neg (by simp; omega), if_pos (by omega)]
  · rw [if_neg (by simp; omega), if_pos (by omega)]
theorem slot_is {e cap : Int} (hc : 0 ≤ cap) {ws : List (Int × Int)} {t : Nat} (ht : t < ws.length) : (asg e cap g0 ws)[t]'(by rw [asg_len]; exact ht) = (slotN e cap ws t 0, slotN e cap ws t 1) := by
  have g : ws.getD t (0, 0) = ws[t] := by simp [List.getD_eq_getElem?_getD, ht]
  rw [asg_get ws g0 t ht]
  have a := slot_cnt (e := e) (g := asgC e cap g0 (ws.take t)) (n := aheadN ws t 0 ws[t].1) (x := ws[t].1) hc (fun h1 h2 => by rw [asg_cnt hc h1 h2 t (by omega)]; simp [aheadN])
  have b := slot_cnt (e := e) (g := give1 e cap (asgC e cap g0 (ws.take t)) ws[t].1) (n := aheadN ws t 1 ws[t].2) (x := ws[t].2) hc (fun h1 h2 => by
    rw [give_cnt h1 h2 (asg_cnt hc h1 h2 t (by omega)) hc]
    unfold aheadN
    rw [g, if_pos (by decide)])
  rw [a, b]
  unfold slotN wishN
  rw [g]
  rfl
theorem slot_row {ws : List (Int × Int)} {e cap : Int} {t r : Nat} (ht : t < ws.length) (hr : r ≤ 1) (hl : ws.length ≤ 100000) {c5 o5 ty n5 : Nat} {fz : Bool} (hn : n5 = ws.length) (s : St) (k : Key) (hg : s.hp.get ⟨5, c5, o5⟩ = some (.row ty 2 (ws.map prT) fz)) : callEv cfg (runL cfg) 66 [.ow ⟨5, c5, o5⟩ 2 0 n5, iv e, iv cap, iv t, iv r] s k = some (iv (slotN e cap ws t r), s.hp, s.ck) := by
  subst hn
  refine callEv_t rfl rfl ?_ (rslot_ret ws e cap t r ht hr hl) (.inl rfl)
  simp [puresOf, pureOf, treeOf, hg, prl]
  exact List.take_of_length_le (by simp)
def rp0I (l : Lay) (ts : List (List Int)) (bx : List V) (ty : Nat) (i : Nat) (s : St) : Prop := ∃ c5 o5 ck e5, e5 = ((wants (chosen l ts)).take i).map prT ∧ s = ⟨[(1, .t (gl ts)), (2, .pt ⟨2, 0, 0⟩ 3 0 0), (5, .ow ⟨5, c5, o5⟩ 2 0 i), (14, .t (gl ts)), (15, iv ts.length), (16, iv (i : Int))], [(⟨5, c5, o5⟩, .row 115 2 e5 false), (⟨2, 0, 0⟩, .box ty bx)], ck⟩
def rp0Q (l : Lay) (ts : List (List Int)) (bx : List V) (ty : Nat) (E : Option (Ex × St)) : Prop := ∃ c5 o5 ck v, E = some (.exit 0, ⟨[(1, .t (gl ts)), (2, .pt ⟨2, 0, 0⟩ 3 0 0), (5, .ow ⟨5, c5, o5⟩ 2 0 ts.length), (14, .t (gl ts)), (15, iv ts.length), (16, iv ts.length), (17, v)], [(⟨5, c5, o5⟩, .row 115 2 ((wants (chosen l ts)).map prT) false), (⟨2, 0, 0⟩, .box ty bx)], ck⟩)
theorem rp0_loop (l : Lay) (ts : List (List Int)) (b1 b2 : V) (ty : Nat) (hg : Few l.gate) (hl : ts.length ≤ 100000) (ht : ∀ r ∈ ts, r.length ≤ 1000000) (c5 o5 ck : Nat) : rp0Q l ts [.t (gl l.gate), b1, b2] ty (evL cfg (.loop f35l0) ⟨[(1, .t (gl ts)), (2, .pt ⟨2, 0, 0⟩ 3 0 0), (5, .ow ⟨5, c5, o5⟩ 2 0 0), (14, .t (gl ts)), (15, iv ts.length), (16, iv 0)], [(⟨5, c5, o5⟩, .row 115 2 [] false), (⟨2, 0, 0⟩, .box ty [.t (gl l.gate), b1, b2])], ck⟩) := by
  refine loop_q ts.length (rp0I l ts [.t (gl l.gate), b1, b2] ty) ?_ ?_ _ ⟨c5, o5, ck, [], rfl, rfl⟩
  · rintro i s hi ⟨c5, o5, ck, e5, h5, rfl⟩
    have hw : IntKind.i64.wrap ((i : Int) + 1) = (i : Int) + 1 := wrap_id (by omega) (by omega)
    have hwl : (wants (chosen l ts)).length = ts.length := by simp [wants, chosen]
    have l5 : e5.length = i := by rw [h5]; simp [hwl]; omega
    have b6 : (i + 1) * 16 ≤ 140737488355328 := by omega
    have t6 : (wants (chosen l ts)).take (i + 1) = (wants (chosen l ts)).take i ++ [((choP l.gate ts[i]).first, (choP l.gate ts[i]).second)] := by
      rw [List.take_succ_eq_append_getElem (by omega)]; simp [wants, chosen]
    have hc := fun s k => callEv_tr (C := cfg) (rchoose_ret l.gate ts[i] hg (ht _ (List.getElem_mem hi))) rfl rfl rfl s k
    simp only [gl, il, choC, iv, bv] at hc
    generalize choP l.gate ts[i] = c at *
    simp [f35l0e, gl, il, hi, hw, hc, rowsOf, keysOfs, treesC, treesOf, treeOf, keysOf1, freezeAll, app, elsOf, over, buildV, b6, l5]
    exact ⟨_, _, _, _, by rw [t6, h5]; simp [prT], rfl⟩
  · rintro s ⟨c5, o5, ck, e5, h5, rfl⟩
    rw [List.take_of_length_le (by simp [chosen, wants])] at h5
    subst h5
    simp [f35l0e, gl]
    exact ⟨_, _, _, _, rfl⟩
def rp1S (l : Lay) (ts : List (List Int)) (c5 o5 c o : Nat) (out : List Pt) (i ck : Nat) : St := ⟨[(1, .t (gl ts)), (2, .pt ⟨2, 0, 0⟩ 3 0 0), (5, .ow ⟨5, c5, o5⟩ 2 0 ts.length), (10, .ow ⟨10, c, o⟩ 4 0 out.length), (11, iv (i : Int))], [(⟨10, c, o⟩, .row 73 4 (out.map ptT) false), (⟨5, c5, o5⟩, .row 115 2 ((wants (chosen l ts)).map prT) false), (⟨2, 0, 0⟩, .box 37 [.t (gl l.gate), .t (.l (l.exps.map exT)), iv l.cap])], ck⟩
def ssP (l : Lay) (ts : List (List Int)) : List (Int × Int) := asg l.exps.length l.cap g0 (wants (chosen l ts))
def rp1I (l : Lay) (ts : List (List Int)) (c5 o5 : Nat) (i : Nat) (s : St) : Prop := ∃ c o ck, s = rp1S l ts c5 o5 c o (partsT (chosen l ts) (ssP l ts) i) i ck
def rp1Q (l : Lay) (ts : List (List Int)) (c5 o5 : Nat) (E : Option (Ex × St)) : Prop := ∃ c o ck, E = some (.exit 2, ⟨[(1, .t (gl ts)), (2, .pt ⟨2, 0, 0⟩ 3 0 0), (5, .ow ⟨5, c5, o5⟩ 2 0 ts.length), (10, .ow ⟨10, c, o⟩ 4 0 (partsP l ts).length), (11, iv ts.length), (39, bv false)], [(⟨10, c, o⟩, .row 73 4 ((partsP l ts).map ptT) false), (⟨5, c5, o5⟩, .row 115 2 ((wants (chosen l ts)).map prT) false), (⟨2, 0, 0⟩, .box 37 [.t (gl l.gate), .t (.l (l.exps.map exT)), iv l.cap])], ck⟩)
def rpB (l : Lay) (ts : List (List Int)) (c5 o5 c o : Nat) (out : List Pt) (x : Cho) (c12 o12 : Nat) : HP := [(⟨12, c12, o12⟩, .box 112 (choC x)), (⟨10, c, o⟩, .row 73 4 (out.map ptT) false), (⟨5, c5, o5⟩, .row 115 2 ((wants (chosen l ts)).map prT) false), (⟨2, 0, 0⟩, .box 37 [.t (gl l.gate), .t (.l (l.exps.map exT)), iv l.cap])]
abbrev rpP1 : Pc := .seq f35r12 (.seq f35r13 (.cond (.tmp 60) f35r14 .skip))
abbrev rpP2 : Pc := .seq f35r15 (.cond (.tmp 78) f35r16 .skip)
set_option maxHeartbeats 1000000 in
theorem rp_one (l : Lay) (ts : List (List Int)) (c5 o5 c o i ck : Nat) (hi : i < ts.length) (hg : Few l.gate) (hl : ts.length ≤ 10000) (ht : ∀ r ∈ ts, r.length ≤ 1000000) (out : List Pt) (ho : out.length ≤ 100000) (v39 : V) : ∃ c' o' c12 o12 ck' tl, evL cfg rpP1 ⟨[(1, .t (gl ts)), (2, .pt ⟨2, 0, 0⟩ 3 0 0), (5, .ow ⟨5, c5, o5⟩ 2 0 ts.length), (10, .ow ⟨10, c, o⟩ 4 0 out.length), (11, iv (i : Int)), (39, v39)], [(⟨10, c, o⟩, .row 73 4 (out.map ptT) false), (⟨5, c5, o5⟩, .row 115 2 ((wants (chosen l ts)).map prT) false), (⟨2, 0, 0⟩, .box 37 [.t (gl l.gate), .t (.l (l.exps.map exT)), iv l.cap])], ck⟩ = some (.normal, ⟨(1, .t (gl ts)) :: (2, .pt ⟨2, 0, 0⟩ 3 0 0) :: (5, .ow ⟨5, c5, o5⟩ 2 0 ts.length) :: (10, .ow ⟨10, c', o'⟩ 4 0 (out ++ pt0 i (choP l.gate ts[i]) (slotN l.exps.length l.cap (wants (chosen l ts)) i 0)).length) :: (11, iv (i : Int)) :: (12, .pt ⟨12, c12, o12⟩ 4 0 0) :: tl, rpB l ts c5 o5 c' o' (out ++ pt0 i (choP l.gate ts[i]) (slotN l.exps.length l.cap (wants (chosen l ts)) i 0)) (choP l.gate ts[i]) c12 o12, ck'⟩) := by
  have hwl : (wants (chosen l ts)).length = ts.length := by simp [wants, chosen]
  have hq := fun hp => callQ_tr (C := cfg) (rchoose_ret l.gate ts[i] hg (ht _ (List.getElem_mem hi))) rfl hp
  have hs0 := fun s k h => slot_row (ws := wants (chosen l ts)) (e := l.exps.length) (cap := l.cap) (t := i) (r := 0) (by omega) (by omega) (by omega) (c5 := c5) (o5 := o5) (ty := 115) (n5 := ts.length) (fz := false) hwl.symm s k h
  unfold rpB
  generalize slotN l.exps.length l.cap (wants (chosen l ts)) i 0 = S0 at *
  generalize (wants (chosen l ts)).map prT = W at *
  simp only [gl, il, choC, iv, bv] at hq
  simp only [iv, Int.natCast_zero] at hs0
  generalize choP l.gate ts[i] = x at *
  have e1 : (out.length + 1) * 32 ≤ 140737488355328 := by omega
  unfold pt0
  by_cases p0 : 0 ≤ S0
  · rw [if_pos p0]
    simp [gl, il, hi, hq, hs0, p0, rowsOf, keysOfs, treesC, treesOf, treeOf, keysOf1, freezeAll, app, elsOf, over, buildV, e1, ptT, choC]
    exact ⟨_, _, _, _, ⟨⟨rfl, rfl⟩, rfl, rfl⟩, ⟨rfl, rfl⟩, rfl, rfl⟩
  · rw [if_neg p0]
    simp [gl, il, hi, hq, hs0, p0, over, choC]
    exact ⟨_, _, _, _, ⟨⟨rfl, rfl⟩, rfl, rfl⟩, ⟨rfl, rfl⟩, rfl, rfl⟩
set_option maxHeartbeats 1000000 in
theorem rp_two (l : Lay) (ts : List (List Int)) (c5 o5 c o i ck c12 o12 : Nat) (hi : i < ts.length) (hl : ts.length ≤ 10000) (out : List Pt) (ho : out.length ≤ 100000) (x : Cho) (tl : Env) : ∃ c' o' ck' e, evL cfg rpP2 ⟨(1, .t (gl ts)) :: (2, .pt ⟨2, 0, 0⟩ 3 0 0) :: (5, .ow ⟨5, c5, o5⟩ 2 0 ts.length) :: (10, .ow ⟨10, c, o⟩ 4 0 out.length) :: (11, iv (i : Int)) :: (12, .pt ⟨12, c12, o12⟩ 4 0 0) :: tl, rpB l ts c5 o5 c o out x c12 o12, ck⟩ = some (.normal, e) ∧ evL cfg f35r11 e = some (.normal, rp1S l ts c5 o5 c' o' (out ++ pt1 i x (slotN l.exps.length l.cap (wants (chosen l ts)) i 1)) (i + 1) ck') := by
  have hw : IntKind.i64.wrap ((i : Int) + 1) = (i : Int) + 1 := wrap_id (by omega) (by omega)
  have hwl : (wants (chosen l ts)).length = ts.length := by simp [wants, chosen]
  have hs1 := fun s k h => slot_row (ws := wants (chosen l ts)) (e := l.exps.length) (cap := l.cap) (t := i) (r := 1) (by omega) (by omega) (by omega) (c5 := c5) (o5 := o5) (ty := 115) (n5 := ts.length) (fz := false) hwl.symm s k h
  unfold rpB rp1S
  generalize slotN l.exps.length l.cap (wants (chosen l ts)) i 1 = S1 at *
  generalize (wants (chosen l ts)).map prT = W at *
  simp only [iv, Int.natCast_one] at hs1
  have e1 : (out.length + 1) * 32 ≤ 140737488355328 := by omega
  unfold pt1
  by_cases p1 : 0 ≤ S1
  · rw [if_pos p1]
    simp [gl, il, hi, hs1, p1, hw, rowsOf, keysOfs, treesC, treesOf, treeOf, keysOf1, freezeAll, app, elsOf, over, buildV, e1, ptT, choC]
  · rw [if_neg p1]
    simp [gl, il, hi, hs1, p1, hw, over, choC]
theorem evL_pre2 {C : Cfg} {a b x : Pc} {s s' : St} (h : evL C (.seq a b) s = some (.normal, s')) : evL C (.seq a (.seq b x)) s = evL C x s' := by
  rw [evL_seq] at h
  rw [evL_seq]
  cases ha : evL C a s with
  | none => rw [ha] at h; cases h
  | some r =>
    obtain ⟨o, s1⟩ := r
    rw [ha] at h
    cases o with
    | normal =>
      have h' : evL C b s1 = some (.normal, s') := h
      show evL C (.seq b x) s1 = _
      rw [evL_seq, h']
      rfl
    | _ => cases h
theorem rp1_step (l : Lay) (ts : List (List Int)) (c5 o5 c o i ck : Nat) (hi : i < ts.length) (hg : Few l.gate) (hl : ts.length ≤ 10000) (ht : ∀ r ∈ ts, r.length ≤ 1000000) (out : List Pt) (ho : out.length ≤ 90000) : ∃ c' o' ck', evL cfg f35l1 (rp1S l ts c5 o5 c o out i ck) = some (.normal, rp1S l ts c5 o5 c' o' (out ++ (pt0 i (choP l.gate ts[i]) (slotN l.exps.length l.cap (wants (chosen l ts)) i 0) ++ pt1 i (choP l.gate ts[i]) (slotN l.exps.length l.cap (wants (chosen l ts)) i 1))) (i + 1) ck') := by
  have hl1 : f35l1 = .seq (.seq f35r10 (.cond (.tmp 39) .skip (.exit 2))) (.seq (.block 3 (.seq f35r12 (.seq (.seq f35r13 (.cond (.tmp 60) f35r14 .skip)) rpP2))) f35r11) := rfl
  have h0 : evL cfg (.seq f35r10 (.cond (.tmp 39) .skip (.exit 2))) (rp1S l ts c5 o5 c o out i ck) = some (.normal, ⟨[(1, .t (gl ts)), (2, .pt ⟨2, 0, 0⟩ 3 0 0), (5, .ow ⟨5, c5, o5⟩ 2 0 ts.length), (10, .ow ⟨10, c, o⟩ 4 0 out.length), (11, iv (i : Int)), (39, bv true)], [(⟨10, c, o⟩, .row 73 4 (out.map ptT) false), (⟨5, c5, o5⟩, .row 115 2 ((wants (chosen l ts)).map prT) false), (⟨2, 0, 0⟩, .box 37 [.t (gl l.gate), .t (.l (l.exps.map exT)), iv l.cap])], ck + 1⟩) := by
    simp [rp1S, gl, hi]
  obtain ⟨c1, o1, c12, o12, k1, tl, h1⟩ := rp_one l ts c5 o5 c o i (ck + 1) hi hg hl ht out (by omega) (bv true)
  have hp := pt0_len i (choP l.gate ts[i]) (slotN l.exps.length l.cap (wants (chosen l ts)) i 0)
  obtain ⟨c2, o2, k2, e, h2, h3⟩ := rp_two l ts c5 o5 c1 o1 i k1 c12 o12 hi hl (out ++ pt0 i (choP l.gate ts[i]) (slotN l.exps.length l.cap (wants (chosen l ts)) i 0)) (by rw [List.length_append]; omega) (choP l.gate ts[i]) tl
  refine ⟨c2, o2, k2, ?_⟩
  rw [hl1, evL_seq, h0]
  show evL cfg (.seq _ _) _ = _
  rw [evL_seq, evL_block, (evL_pre2 h1).trans h2]
  show evL cfg f35r11 e = _
  rw [h3, List.append_assoc]
theorem rp1_loop (l : Lay) (ts : List (List Int)) (c5 o5 c o ck : Nat) (hg : Few l.gate) (hl : ts.length ≤ 10000) (ht : ∀ r ∈ ts, r.length ≤ 1000000) (hc : 0 ≤ l.cap) : rp1Q l ts c5 o5 (evL cfg (.loop f35l1) (rp1S l ts c5 o5 c o [] 0 ck)) := by
  have hcl : (chosen l ts).length = ts.length := by simp [chosen]
  have hwl : (wants (chosen l ts)).length = ts.length := by simp [wants, chosen]
  have hsl : (chosen l ts).length = (ssP l ts).length := by simp [ssP, asg_len, wants]
  refine loop_q ts.length (rp1I l ts c5 o5) ?_ ?_ _ ⟨c, o, ck, by simp [partsT, partsA]⟩
  · rintro i s hi ⟨c, o, ck, rfl⟩
    have hlen := partsT_len hsl i (by omega)
    obtain ⟨c', o', ck', h⟩ := rp1_step l ts c5 o5 c o i ck hi hg hl ht (partsT (chosen l ts) (ssP l ts) i) (by omega)
    rw [h]
    have hs := partsT_s hsl (i := i) (by omega)
    have e1 : (chosen l ts)[i]'(by omega) = choP l.gate ts[i] := by simp [chosen]
    have e2 : (ssP l ts)[i]'(by omega) = (slotN l.exps.length l.cap (wants (chosen l ts)) i 0, slotN l.exps.length l.cap (wants (chosen l ts)) i 1) := slot_is hc (by omega)
    rw [e1, e2] at hs
    simp only at hs
    rw [← hs]
    exact ⟨c', o', ck', rfl⟩
  · rintro s ⟨c, o, ck, rfl⟩
    have e : partsT (chosen l ts) (ssP l ts) ts.length = partsP l ts := by
      unfold partsT partsP
      rw [List.take_of_length_le (by omega), List.take_of_length_le (by omega)]
      rfl
    rw [e]
    simp [f35l1e, rp1S, gl]
    exact ⟨c, o, ck + 1, by simp [gl]⟩
theorem rparts_ret (l : Lay) (ts : List (List Int)) (hg : Few l.gate) (hl : ts.length ≤ 10000) (ht : ∀ r ∈ ts, r.length ≤ 1000000) (hc : 0 ≤ l.cap) : RetT cfg 35 [layV l, .t (gl ts)] (.t (ptl (partsP l ts))) := by
  obtain ⟨c5, o5, ck, v, h0⟩ := rp0_loop l ts (.t (.l (l.exps.map exT))) (iv l.cap) 37 hg (by omega) ht 1 0 3
  obtain ⟨c, o, ck2, h1⟩ := rp1_loop l ts c5 o5 ck 0 (ck + 1 + 1) hg hl ht hc
  rw [retT_r, runL_pf (fn := f35) rfl rfl]
  unfold rp1S at h1
  generalize (wants (chosen l ts)).map prT = W at *
  generalize partsP l ts = P at *
  simp [gl] at h0 h1
  simp [layV, gl, h0, h1, resOf, resOf1, treeOf, ptl, List.take_of_length_le]
def scI (a : List Int) (k : Int) (i : Nat) (s : St) : Prop := ∃ c o ck els, els = cl ((scaleR a k).take i) ∧ s = ⟨[(0, .t (il a)), (1, iv k), (5, .ow ⟨5, c, o⟩ 1 0 i), (6, iv (i : Int))], [(⟨5, c, o⟩, .row 3 1 els false)], ck⟩
def scQ (a : List Int) (k : Int) (E : Option (Ex × St)) : Prop := ∃ c o ck x y z w, E = some (.exit 0, ⟨[(0, x), (1, y), (5, .ow ⟨5, c, o⟩ 1 0 a.length), (6, z), (10, w)], [(⟨5, c, o⟩, .row 3 1 (cl (scaleR a k)) false)], ck⟩)
theorem rscale_ret (a : List Int) (k : Int) (hl : a.length ≤ 1000000) : RetT cfg 37 [.t (il a), iv k] (.t (il (scaleR a k))) := by
  have hL : ∀ c o ck, scQ a k (evL cfg (.loop f37l0) ⟨[(0, .t (il a)), (1, iv k), (5, .ow ⟨5, c, o⟩ 1 0 0), (6, iv 0)], [(⟨5, c, o⟩, .row 3 1 [] false)], ck⟩) := by
    intro c o ck
    refine loop_q a.length (scI a k) ?_ ?_ _ ⟨c, o, ck, [], rfl, rfl⟩
    · rintro i s hi ⟨c, o, ck, els, h1, rfl⟩
      have hw : IntKind.i64.wrap ((i : Int) + 1) = (i : Int) + 1 := wrap_id (by omega) (by omega)
      have hlen : els.length = i := by rw [h1]; simp [cl, scaleR]; omega
      have hb : (i + 1) * 8 ≤ 140737488355328 := by omega
      have ht : cl ((scaleR a k).take (i + 1)) = cl ((scaleR a k).take i) ++ [[.i .i64 (fmul a[i] k)]] := by
        rw [List.take_succ_eq_append_getElem (by simpa [scaleR] using hi)]
        simp [cl, scaleR]
      simp [f37l0e, il, hi, hw, rmul_call, rowsOf, keysOfs, treesC, treesOf, treeOf, freezeAll, app, elsOf, over, hb, hlen]
      exact ⟨_, _, _, _, by rw [ht, h1], rfl⟩
    · rintro s ⟨c, o, ck, els, h1, rfl⟩
      rw [List.take_of_length_le (by simp [scaleR])] at h1
      subst h1
      simp [f37l0e, il]
      exact ⟨_, _, _, _, _, _, _, rfl⟩
  obtain ⟨c, o, ck, x, y, z, w, hc⟩ := hL 1 0 3
  rw [retT_r, runL_pf (fn := f37) rfl rfl]
  simp [il] at hc
  simp [il, hc, resOf, resOfs, resOf1, treeOf, cl, List.take_of_length_le, scaleR]
def adI (a b : List Int) (i : Nat) (s : St) : Prop := ∃ c o ck els, els = cl ((addR a b).take i) ∧ s = ⟨[(0, .t (il a)), (1, .t (il b)), (5, .ow ⟨5, c, o⟩ 1 0 i), (6, iv (i : Int))], [(⟨5, c, o⟩, .row 3 1 els false)], ck⟩
def adQ (a b : List Int) (E : Option (Ex × St)) : Prop := ∃ c o ck x y z w, E = some (.exit 0, ⟨[(0, x), (1, y), (5, .ow ⟨5, c, o⟩ 1 0 a.length), (6, z), (10, w)], [(⟨5, c, o⟩, .row 3 1 (cl (addR a b)) false)], ck⟩)
theorem radd_ret (a b : List Int) (hab : a.length = b.length) (hl : a.length ≤ 1000000) : RetT cfg 36 [.t (il a), .t (il b)] (.t (il (addR a b))) := by
  have hL : ∀ c o ck, adQ a b (evL cfg (.loop f36l0) ⟨[(0, .t (il a)), (1, .t (il b)), (5, .ow ⟨5, c, o⟩ 1 0 0), (6, iv 0)], [(⟨5, c, o⟩, .row 3 1 [] false)], ck⟩) := by
    intro c o ck
    refine loop_q a.length (adI a b) ?_ ?_ _ ⟨c, o, ck, [], rfl, rfl⟩
    · rintro i s hi ⟨c, o, ck, els, h1, rfl⟩
      have hw : IntKind.i64.wrap ((i : Int) + 1) = (i : Int) + 1 := wrap_id (by omega) (by omega)
      have hib : i < b.length := by omega
      have h1a := hold_in a[i]
      have h1b := hold_in b[i]
      have w2 : IntKind.i64.wrap (hold a[i] + hold b[i]) = hold a[i] + hold b[i] := wrap_id (by omega) (by omega)
      have hlen : els.length = i := by rw [h1]; simp [cl, addR]; omega
      have hb : (i + 1) * 8 ≤ 140737488355328 := by omega
      have ht : cl ((addR a b).take (i + 1)) = cl ((addR a b).take i) ++ [[.i .i64 (hold (hold a[i] + hold b[i]))]] := by
        rw [List.take_succ_eq_append_getElem (by simp [addR]; omega)]
        simp [cl, addR, fadd]
      simp [f36l0e, il, hi, hib, hw, w2, rhold_callq, rowsOf, keysOfs, treesC, treesOf, treeOf, freezeAll, app, elsOf, over, hb, hlen]
      exact ⟨_, _, _, _, by rw [ht, h1], rfl⟩
    · rintro s ⟨c, o, ck, els, h1, rfl⟩
      rw [List.take_of_length_le (by simp [addR]; omega)] at h1
      subst h1
      simp [f36l0e, il]
      exact ⟨_, _, _, _, _, _, _, rfl⟩
  obtain ⟨c, o, ck, x, y, z, w, hc⟩ := hL 1 0 3
  have hal : (addR a b).length = a.length := by simp [addR]; omega
  rw [retT_r, runL_pf (fn := f36) rfl rfl]
  generalize addR a b = R at *
  simp [il] at hc
  simp [il, hc, resOf, resOfs, resOf1, treeOf, cl, List.take_of_length_le, hal]
def rlF (x : Int) : Int := if hold x < 0 then 0 else hold x
def rlI (a : List Int) (i : Nat) (s : St) : Prop := ∃ c o ck els, els = cl ((reluR a).take i) ∧ s = ⟨[(0, .t (il a)), (3, .ow ⟨3, c, o⟩ 1 0 i), (4, iv (i : Int))], [(⟨3, c, o⟩, .row 3 1 els false)], ck⟩
def rlQ (a : List Int) (E : Option (Ex × St)) : Prop := ∃ c o ck x z w, E = some (.exit 0, ⟨[(0, x), (3, .ow ⟨3, c, o⟩ 1 0 a.length), (4, z), (9, w)], [(⟨3, c, o⟩, .row 3 1 (cl (reluR a)) false)], ck⟩)
theorem rrelu_ret (a : List Int) (hl : a.length ≤ 1000000) : RetT cfg 70 [.t (il a)] (.t (il (reluR a))) := by
  have hL : ∀ c o ck, rlQ a (evL cfg (.loop f70l0) ⟨[(0, .t (il a)), (3, .ow ⟨3, c, o⟩ 1 0 0), (4, iv 0)], [(⟨3, c, o⟩, .row 3 1 [] false)], ck⟩) := by
    intro c o ck
    refine loop_q a.length (rlI a) ?_ ?_ _ ⟨c, o, ck, [], rfl, rfl⟩
    · rintro i s hi ⟨c, o, ck, els, h1, rfl⟩
      have hw : IntKind.i64.wrap ((i : Int) + 1) = (i : Int) + 1 := wrap_id (by omega) (by omega)
      have hlen : els.length = i := by rw [h1]; simp [cl, reluR]; omega
      have hb : (i + 1) * 8 ≤ 140737488355328 := by omega
      have ht : cl ((reluR a).take (i + 1)) = cl ((reluR a).take i) ++ [[.i .i64 (rlF a[i])]] := by
        rw [List.take_succ_eq_append_getElem (by simpa [reluR] using hi)]
        simp [cl, reluR, rlF]
      unfold rlF at ht
      by_cases c : hold a[i] < 0
      · rw [if_pos c] at ht
        simp [f70l0e, il, hi, hw, rhold_call, c, rowsOf, keysOfs, treesC, treesOf, treeOf, freezeAll, app, elsOf, over, hb, hlen]
        exact ⟨_, _, _, _, by rw [ht, h1], rfl⟩
      · rw [if_neg c] at ht
        simp [f70l0e, il, hi, hw, rhold_call, c, rowsOf, keysOfs, treesC, treesOf, treeOf, freezeAll, app, elsOf, over, hb, hlen]
        exact ⟨_, _, _, _, by rw [ht, h1], rfl⟩
    · rintro s ⟨c, o, ck, els, h1, rfl⟩
      rw [List.take_of_length_le (by simp [reluR])] at h1
      subst h1
      simp [f70l0e, il]
      exact ⟨_, _, _, _, _, _, rfl⟩
  obtain ⟨c, o, ck, x, z, w, hc⟩ := hL 1 0 3
  have hal : (reluR a).length = a.length := by simp [reluR]
  rw [retT_r, runL_pf (fn := f70) rfl rfl]
  generalize reluR a = R at *
  simp [il] at hc
  simp [il, hc, resOf, resOfs, resOf1, treeOf, cl, List.take_of_length_le, hal]
def apP1 (m : List (List Int)) (v : List Int) : List Int := if matOk m v.length then scoresP m v else []
def runD (x : Exp) (v : List Int) : List Int := apP1 x.out (reluR (apP1 x.inn v))
theorem rrun_ret (x : Exp) (v : List Int) (hx : FewX x) (hv : v.length ≤ 1000000) : RetT cfg 38 [exV x, .t (il v)] (.t (il (runD x v))) := by
  have h1 := fun s k => callEv_tr (C := cfg) (rapply_ret x.inn v hx.1.1 hv) rfl rfl rfl s k
  have e1 : (if matOk x.inn v.length = true then scoresP x.inn v else []) = apP1 x.inn v := rfl
  rw [e1] at h1
  have l1 : (apP1 x.inn v).length ≤ 1000000 := by
    unfold apP1
    split
    · simpa [scoresP] using hx.1.1
    · simp
  have h2 := fun hp => callQ_tr (C := cfg) (rrelu_ret (apP1 x.inn v) l1) rfl hp
  have l2 : (reluR (apP1 x.inn v)).length ≤ 1000000 := by simpa [reluR] using l1
  have h3 := fun hp => callQ_tr (C := cfg) (rapply_ret x.out (reluR (apP1 x.inn v)) hx.2.1 l2) rfl hp
  have e3 : (if matOk x.out (reluR (apP1 x.inn v)).length = true then scoresP x.out (reluR (apP1 x.inn v)) else []) = runD x v := rfl
  rw [e3] at h3
  generalize runD x v = R at *
  generalize reluR (apP1 x.inn v) = R2 at *
  generalize apP1 x.inn v = R1 at *
  refine RetT.of ?_
  rw [runL_pf (fn := f38) rfl rfl]
  simp only [gl, il, bv] at h1 h2 h3
  simp [exV, gl, il, h1, h2, h3]
theorem first_in {rows : List (List Int)} (v : List Int) {n : Nat} (hn : rows.length = n) (h1 : 1 ≤ n) : 0 ≤ (choP rows v).first ∧ (choP rows v).first < n := by
  unfold choP
  split
  · exact ⟨by simp, by simp only; omega⟩
  · rename_i hc
    have hne : scoresP rows v ≠ [] := by
      intro e
      have : (scoresP rows v).length = rows.length := by simp [scoresP]
      rw [e] at this
      simp at this
      omega
    have hlen : (scoresP rows v).length = rows.length := by simp [scoresP]
    obtain ⟨⟨t1, t2⟩, -⟩ := two_in hne
    rw [hlen, hn] at t2
    split
    · exact ⟨t1, t2⟩
    · exact ⟨t1, t2⟩
theorem parts_ne {m : Mod} {l : Lay} {ts : List (List Int)} (hl : layRight l m.dim = true) (ht : 1 ≤ ts.length) : partsP l ts ≠ [] := by
  simp only [layRight, Bool.and_eq_true, decide_eq_true_eq, mrightP] at hl
  match ts, ht with
  | v :: r, _ =>
    have hg : l.gate.length = l.exps.length := by omega
    obtain ⟨f1, f2⟩ := first_in (rows := l.gate) v hg (by omega)
    have hs : slot1 l.exps.length l.cap g0 (choP l.gate v).first = 0 := by
      unfold slot1 may1 g0
      rw [if_pos (by simp; omega)]
    simp only [partsP, chosen, wants, List.map_cons, asg, partsA, pt0, hs]
    simp
theorem begin_ne {m : Mod} {pe : Int} {ph ts : List (List Int)} (h : newOk m pe ph ts = true) : partsP (layAt m 0) ts ≠ [] ∧ 0 < m.lays.length := by
  simp only [newOk, modRight, tokRight, Bool.and_eq_true, decide_eq_true_eq, List.all_eq_true] at h
  obtain ⟨⟨⟨⟨⟨⟨⟨_, _⟩, h3⟩, _⟩, h5⟩, ⟨⟨h6, _⟩, _⟩⟩, _⟩, _⟩ := h
  have hz : 0 < m.lays.length := by omega
  have e : layAt m 0 = m.lays[0] := by simp [layAt, List.getD_eq_getElem?_getD, hz]
  rw [e]
  exact ⟨parts_ne (h5 _ (List.getElem_mem hz)) h6, hz⟩
theorem start_is {m : Mod} {pe : Int} {ph ts : List (List Int)} (h : newOk m pe ph ts = true) : startF m pe ph ts = askP (newP (newF m pe ph ts)) := by
  obtain ⟨h1, h2⟩ := begin_ne h
  have hb : beginP (newF m pe ph ts) = askP (newP (newF m pe ph ts)) := by
    unfold beginP
    rw [if_pos (show (newF m pe ph ts).at_ < (newF m pe ph ts).m.lays.length from h2)]
  unfold startF
  rw [hb]
  have hf : false ∈ (askP (newP (newF m pe ph ts))).answd := by
    obtain ⟨-, -, -, -, -, -, -, -, e⟩ := askP_m (newP (newF m pe ph ts))
    rw [e]
    refine List.mem_replicate.2 ⟨?_, rfl⟩
    intro e
    exact h1 (List.length_eq_zero_iff.1 e)
  have key : ∀ n, comeN n (askP (newP (newF m pe ph ts))) = askP (newP (newF m pe ph ts)) := by
    intro n
    cases n with
    | zero => rfl
    | succ n => unfold comeN; rw [if_neg (fun hc => hc.2 hf)]
  exact key _
theorem partsA_exp (e cap : Int) : ∀ (cs : List Cho) (t : Nat) (g : Cnt), ∀ p ∈ partsA t cs (asg e cap g (wants cs)), 0 ≤ p.expert ∧ p.expert < e
  | [], t, g, p, h => by simp [partsA] at h
  | c :: cs, t, g, p, h => by
    have e0 : wants (c :: cs) = (c.first, c.second) :: wants cs := rfl
    rw [e0] at h
    simp only [asg, partsA, List.mem_append] at h
    have key : ∀ (g : Cnt) (x : Int), 0 ≤ slot1 e cap g x → 0 ≤ x ∧ x < e := by
      intro g x hs
      unfold slot1 may1 at hs
      split at hs
      · rename_i hm
        simp only [Bool.and_eq_true, decide_eq_true_eq] at hm
        omega
      · omega
    rcases h with (h | h) | h
    · unfold pt0 at h
      split at h
      · rename_i hs
        simp only [List.mem_singleton] at h
        subst h
        exact key _ _ hs
      · simp at h
    · unfold pt1 at h
      split at h
      · rename_i hs
        simp only [List.mem_singleton] at h
        subst h
        exact key _ _ hs
      · simp at h
    · exact partsA_exp e cap cs (t + 1) _ p h
theorem partsP_exp {l : Lay} {ts : List (List Int)} : ∀ p ∈ partsP l ts, 0 ≤ p.expert ∧ p.expert < l.exps.length := partsA_exp _ _ _ 0 g0
def nodeOf (ph : List (List Int)) (p : Pt) : Int := (ph.getD p.expert.toNat []).getD ((p.token + p.rank).toNat % (ph.getD p.expert.toNat []).length) 0
structure Beg (m : Mod) (pe : Int) (ph ts : List (List Int)) (p : Pt) : Prop where
  tok : 0 ≤ p.token ∧ p.token < ts.length
  rank : 0 ≤ p.rank ∧ p.rank ≤ 1
  exp : 0 ≤ p.expert ∧ p.expert < ph.length
  row : 1 ≤ (ph.getD p.expert.toNat []).length
  node : 1 ≤ nodeOf ph p ∧ nodeOf ph p ≤ 4
theorem held_in {n : Int} (h : hold n = n) : -2147483647 ≤ n ∧ n ≤ 2147483647 := by rw [← h]; exact hold_in n
def Wide (d : Int) (ts : List (List Int)) : Prop := ∀ r ∈ ts, (r.length : Int) = d ∧ heldRow r = true
theorem layR_exp {l : Lay} {d : Int} (h : layRight l d = true) {x : Int} (h0 : 0 ≤ x) (h1 : x < l.exps.length) : exRight (expAt l x) d = true := by
  simp only [layRight, Bool.and_eq_true, List.all_eq_true] at h
  have hx : x.toNat < l.exps.length := by omega
  have e : expAt l x = l.exps[x.toNat] := by simp [expAt, List.getD_eq_getElem?_getD, hx]
  rw [e]
  exact h.2 _ (List.getElem_mem hx)
theorem exR_run {x : Exp} {d : Int} (h : exRight x d = true) {v : List Int} (hv : (v.length : Int) = d) : runD x v = runP x v ∧ ((runP x v).length : Int) = d := by
  simp only [exRight, mrightP, Bool.and_eq_true, decide_eq_true_eq, List.all_eq_true] at h
  obtain ⟨⟨⟨⟨⟨h1, h2⟩, h3⟩, h4⟩, ⟨h5, h6⟩⟩, ⟨h7, h8⟩⟩ := h
  have m1 : matOk x.inn v.length = true := by
    simp only [matOk, List.all_eq_true, decide_eq_true_eq]
    intro r hr
    have := (h6 r hr).1
    omega
  have e1 : apP1 x.inn v = scoresP x.inn v := by unfold apP1; rw [if_pos m1]
  have m2 : matOk x.out (reluR (scoresP x.inn v)).length = true := by
    simp only [matOk, List.all_eq_true, decide_eq_true_eq]
    intro r hr
    have := (h8 r hr).1
    simp only [reluR, scoresP, List.length_map]
    omega
  refine ⟨?_, ?_⟩
  · unfold runD runP
    rw [e1]
    unfold apP1
    rw [if_pos m2]
  · simp only [runP, scoresP, List.length_map]
    exact h7
def fwdT (l : Lay) (ts : List (List Int)) (t : Nat) : List Pt → List Int → List Int
  | [], v => v
  | p :: r, v => fwdT l ts t r (if p.token = t then addR v (scaleR (runD (expAt l p.expert) (ts.getD t [])) p.weight) else v)
def fwd1 (l : Lay) (ts : List (List Int)) : List (List Int) := (List.range ts.length).map fun t => fwdT l ts t (partsP l ts) (ts.getD t [])
def ansW (l : Lay) (ts : List (List Int)) (p : Pt) : List Int := runP (expAt l p.expert) (ts.getD p.token.toNat [])
def nextP (l : Lay) (ts : List (List Int)) : List (List Int) := combP ts (partsP l ts) ((partsP l ts).map (ansW l ts))
def tokN (m : Mod) (ts : List (List Int)) : Nat → List (List Int)
  | 0 => ts
  | n + 1 => nextP (layAt m n) (tokN m ts n)
theorem fwdT_drop {l : Lay} {ts : List (List Int)} {t : Nat} {P : List Pt} {i : Nat} (hi : i < P.length) (v : List Int) : fwdT l ts t (P.drop i) v = fwdT l ts t (P.drop (i + 1)) (if P[i].token = t then addR v (scaleR (runD (expAt l P[i].expert) (ts.getD t [])) P[i].weight) else v) := by
  rw [List.drop_eq_getElem_cons hi]; rfl
theorem held_fadd (a b : Int) : hold (fadd a b) = fadd a b := by unfold fadd; exact hold_id (hold_in _)
theorem heldRow_iff (l : List Int) : heldRow l = true ↔ ∀ n ∈ l, hold n = n := by
  simp [heldRow, List.all_eq_true]
theorem held_addR (a b : List Int) : heldRow (addR a b) = true := by
  rw [heldRow_iff]
  intro n hn
  simp only [addR] at hn
  rw [List.mem_iff_getElem] at hn
  obtain ⟨i, hi, rfl⟩ := hn
  rw [List.getElem_zipWith]
  exact held_fadd _ _
theorem wide_get {d : Int} {ts : List (List Int)} (h : Wide d ts) {t : Nat} (ht : t < ts.length) : ((ts.getD t []).length : Int) = d ∧ heldRow (ts.getD t []) = true := by
  have e : ts.getD t [] = ts[t] := by simp [List.getD_eq_getElem?_getD, ht]
  rw [e]; exact h _ (List.getElem_mem ht)
theorem comb_row {l : Lay} {d : Int} {ts : List (List Int)} (hl : layRight l d = true) (hw : Wide d ts) (ans : List (List Int)) : ∀ (ps : List Pt) (i : Nat) (acc : List (List Int)), (∀ p ∈ ps, (0 ≤ p.token ∧ p.token < ts.length) ∧ 0 ≤ p.expert ∧ p.expert < l.exps.length) → acc.length = ts.length → Wide d acc → i + ps.length = ans.length → (∀ (k : Nat) (hk : k < ps.length), ans.getD (i + k) [] = ansW l ts ps[k]) → (combA ans i ps acc).length = ts.length ∧ Wide d (combA ans i ps acc) ∧ ∀ t, t < ts.length → (combA ans i ps acc).getD t [] = fwdT l ts t ps (acc.getD t [])
  | [], i, acc, hp, ha, hd, hi, hk => ⟨ha, hd, fun t ht => rfl⟩
  | p :: r, i, acc, hp, ha, hd, hi, hk => by
    obtain ⟨⟨p1, p2⟩, p3, p4⟩ := hp p (by simp)
    have hpt : p.token.toNat < ts.length := by omega
    have hans : ans.getD i [] = ansW l ts p := hk 0 (by simp)
    have hx := layR_exp hl p3 p4
    obtain ⟨e1, e2⟩ := exR_run hx (wide_get hw hpt).1
    have hal : ((ans.getD i []).length : Int) = d := by rw [hans]; exact e2
    have hag := wide_get hd (t := p.token.toNat) (by omega)
    have hc : comb1 ans i p acc = acc.set p.token.toNat (addR (acc.getD p.token.toNat []) (scaleR (ansW l ts p) p.weight)) := by
      unfold comb1
      rw [if_pos ⟨by simp at hi; omega, p1, by omega, by omega⟩, hans]
    have hlen : (addR (acc.getD p.token.toNat []) (scaleR (ansW l ts p) p.weight)).length = (acc.getD p.token.toNat []).length := by
      rw [hans] at hal
      simp only [addR, scaleR, List.length_zipWith, List.length_map]; omega
    have hd2 : Wide d (comb1 ans i p acc) := by
      rw [hc]
      intro q hq
      rcases List.mem_or_eq_of_mem_set hq with hq | rfl
      · exact hd q hq
      · exact ⟨by rw [hlen]; exact hag.1, held_addR _ _⟩
    obtain ⟨g1, g2, g3⟩ := comb_row hl hw ans r (i + 1) (comb1 ans i p acc) (fun q hq => hp q (by simp [hq])) (by rw [comb1_len]; exact ha) hd2 (by simp at hi; omega) (fun k hk' => by
      have := hk (k + 1) (by simp; omega)
      rw [show i + 1 + k = i + (k + 1) by omega]
      simpa using this)
    refine ⟨g1, g2, fun t ht => ?_⟩
    have e0 : combA ans i (p :: r) acc = combA ans (i + 1) r (comb1 ans i p acc) := rfl
    rw [e0, g3 t ht]
    have e3 : fwdT l ts t (p :: r) (acc.getD t []) = fwdT l ts t r (if p.token = t then addR (acc.getD t []) (scaleR (runD (expAt l p.expert) (ts.getD t [])) p.weight) else acc.getD t []) := rfl
    rw [e3, hc]
    congr 1
    by_cases c : p.token = t
    · rw [if_pos c]
      have ct : p.token.toNat = t := by omega
      rw [ct] at e1 ⊢
      simp only [List.getD_eq_getElem?_getD]
      rw [List.getElem?_set_self (by omega)]
      simp only [Option.getD_some]
      rw [← List.getD_eq_getElem?_getD, ← List.getD_eq_getElem?_getD, e1]
      unfold ansW
      rw [ct]
    · rw [if_neg c]
      have ct : p.token.toNat ≠ t := by omega
      simp only [List.getD_eq_getElem?_getD]
      rw [List.getElem?_set_ne ct]
theorem next_ok {l : Lay} {d : Int} {ts : List (List Int)} (hl : layRight l d = true) (hw : Wide d ts) : (nextP l ts).length = ts.length ∧ Wide d (nextP l ts) ∧ fwd1 l ts = nextP l ts := by
  have hp : ∀ p ∈ partsP l ts, (0 ≤ p.token ∧ p.token < ts.length) ∧ 0 ≤ p.expert ∧ p.expert < l.exps.length := fun p hp => ⟨⟨(partsP_in p hp).1, (partsP_in p hp).2.1⟩, partsP_exp p hp⟩
  obtain ⟨h1, h2, h3⟩ := comb_row hl hw ((partsP l ts).map (ansW l ts)) (partsP l ts) 0 ts hp rfl hw (by simp) (fun k hk => by simp [List.getD_eq_getElem?_getD, hk])
  refine ⟨h1, h2, ?_⟩
  apply List.ext_getElem
  · simp only [fwd1, List.length_map, List.length_range]; exact h1.symm
  · intro t ht ht2
    have ht3 : t < ts.length := by simpa [fwd1] using ht
    have := h3 t ht3
    rw [List.getD_eq_getElem?_getD, List.getElem?_eq_getElem (show t < (combA ((partsP l ts).map (ansW l ts)) 0 (partsP l ts) ts).length by omega), Option.getD_some] at this
    simp only [fwd1, List.getElem_map, List.getElem_range]
    exact this.symm
theorem tokN_ok {m : Mod} {ts : List (List Int)} (hm : ∀ l ∈ m.lays, layRight l m.dim = true) (hw : Wide m.dim ts) : ∀ n, n ≤ m.lays.length → (tokN m ts n).length = ts.length ∧ Wide m.dim (tokN m ts n)
  | 0, _ => ⟨rfl, hw⟩
  | n + 1, h => by
    obtain ⟨h1, h2⟩ := tokN_ok hm hw n (by omega)
    have hn : n < m.lays.length := by omega
    have e : layAt m n = m.lays[n] := by simp [layAt, List.getD_eq_getElem?_getD, hn]
    have := next_ok (hm _ (List.getElem_mem hn)) h2
    simp only [tokN, e]
    exact ⟨by rw [this.1]; exact h1, this.2.1⟩
def trow (p : Int → Bool) : Nat → Nat → List Int
  | 0, _ => []
  | k + 1, j => (if p j then [(j : Int)] else []) ++ trow p k (j + 1)
def tst (l : List Int) (at_ : Bool) (n : Int) (add : Bool) (j : Int) : Bool := if at_ && j == n then add else l.contains j
def nrow (h : List (List Int)) (x n : Int) (add : Bool) (i : Nat) : List Int := trow (tst (h.getD i []) ((i : Int) == x) n add) 4 1
def rturn (e : Int) (h : List (List Int)) (x n : Int) (add : Bool) : Int × List (List Int) × Int :=
  if may e h x n = false then (e, h, 1) else
  if add && (h.getD x.toNat []).contains n then (e, h, 5) else
  if !add && !(h.getD x.toNat []).contains n then (e, h, 4) else
  if !add && (h.getD x.toNat []).length == 1 then (e, h, 7) else
  (e + 1, (List.range' 0 h.length).map (nrow h x n add), 0)
def subs : List (List Int) := [[], [1], [2], [3], [4], [1, 2], [1, 3], [1, 4], [2, 3], [2, 4], [3, 4], [1, 2, 3], [1, 2, 4], [1, 3, 4], [2, 3, 4], [1, 2, 3, 4]]
theorem sub_in {r : List Int} (h : r.Sublist [1, 2, 3, 4]) : r ∈ subs := by
  have step : ∀ {a : Int} {l : List Int} {r : List Int}, r.Sublist (a :: l) → r.Sublist l ∨ ∃ r', r = a :: r' ∧ r'.Sublist l := by
    intro a l r h
    cases h with
    | cons _ h => exact .inl h
    | cons_cons _ h => exact .inr ⟨_, rfl, h⟩
  have nil : ∀ {r : List Int}, r.Sublist [] → r = [] := fun h => List.sublist_nil.1 h
  rcases step h with h1 | ⟨_, rfl, h1⟩ <;> rcases step h1 with h2 | ⟨_, rfl, h2⟩ <;> rcases step h2 with h3 | ⟨_, rfl, h3⟩ <;> rcases step h3 with h4 | ⟨_, rfl, h4⟩ <;> cases nil h4 <;> decide
theorem row_in {r : List Int} (h : rowUp 0 r = true) : r ∈ subs := sub_in (rowUp_is h)
theorem srt_is {l t : List Int} (hp : t.Pairwise (· ≤ ·)) (h : t.Perm l) : Go.Pev.srt l = t := by
  have h1 : (Go.Pev.srt l).Pairwise (fun a b => decide (a ≤ b) = true) := List.pairwise_mergeSort (by intro a b c h1 h2; simp at *; omega) (by intro a b; simp; omega) _
  have h2 : (Go.Pev.srt l).Perm t := (List.mergeSort_perm _ _).trans h.symm
  refine h2.eq_of_pairwise (le := fun a b => decide (a ≤ b)) (fun a b _ _ h3 h4 => ?_) h1 (hp.imp fun h => ?_)
  · simp at h3 h4; omega
  · simpa using h
theorem trow_same : ∀ r ∈ subs, trow (fun j => r.contains j) 4 1 = r := by decide
theorem trow_add0 : ∀ r ∈ subs, ∀ n ∈ ([1, 2, 3, 4] : List Int), r.contains n = false → (trow (tst r true n true) 4 1).Pairwise (· ≤ ·) ∧ (trow (tst r true n true) 4 1).isPerm (r ++ [n]) = true := by decide
theorem trow_add {r : List Int} (h : r ∈ subs) {n : Int} (hn : 1 ≤ n ∧ n ≤ 4) (hc : r.contains n = false) : trow (tst r true n true) 4 1 = srt (r ++ [n]) := by
  have hm : n ∈ ([1, 2, 3, 4] : List Int) := by
    have : n = 1 ∨ n = 2 ∨ n = 3 ∨ n = 4 := by omega
    rcases this with rfl | rfl | rfl | rfl <;> decide
  obtain ⟨h1, h2⟩ := trow_add0 r h n hm hc
  exact (srt_is h1 (List.isPerm_iff.1 h2)).symm
theorem trow_del : ∀ r ∈ subs, ∀ n ∈ ([1, 2, 3, 4] : List Int), trow (tst r true n false) 4 1 = r.filter (· != n) := by decide
theorem tst_f (r : List Int) (n : Int) (add : Bool) : tst r false n add = fun j => r.contains j := by
  funext j; simp [tst]
theorem n14 {n : Int} (h1 : 1 ≤ n) (h2 : n ≤ 4) : n ∈ ([1, 2, 3, 4] : List Int) := by
  have : n = 1 ∨ n = 2 ∨ n = 3 ∨ n = 4 := by omega
  rcases this with rfl | rfl | rfl | rfl <;> decide
theorem rows_set {e : Int} {h : List (List Int)} (hr : right e h = true) {y : Nat} (hy : y < h.length) (n : Int) (add : Bool) : (List.range' 0 h.length).map (nrow h y n add) = h.set y (trow (tst h[y] true n add) 4 1) := by
  apply List.ext_getElem
  · simp
  · intro i h1 h2
    have hi : i < h.length := by simpa using h1
    have hg : h.getD i [] = h[i] := by simp [List.getD_eq_getElem?_getD, List.getElem?_eq_getElem hi]
    simp only [List.getElem_map, List.getElem_range', nrow, Nat.zero_add, Nat.one_mul, hg]
    rw [List.getElem_set]
    by_cases e : y = i
    · subst e; simp
    · have e' : ((i : Int) == (y : Int)) = false := by simp; omega
      rw [if_neg e, e', tst_f]
      exact trow_same _ (row_in (right_row' hr (List.getElem_mem hi)).1)
theorem may_p {e : Int} {h : List (List Int)} {x n : Int} (h1 : may e h x n = true) : right e h = true ∧ 0 ≤ x ∧ x < h.length ∧ 1 ≤ n ∧ n ≤ 4 ∧ 0 ≤ e ∧ e < 2147483647 := by
  simp only [may, Bool.and_eq_true, decide_eq_true_eq] at h1
  obtain ⟨⟨⟨⟨⟨p1, p2⟩, p3⟩, p4⟩, p5⟩, p6⟩ := h1
  exact ⟨p1, p2, p3, p4, p5, (right_e p1).1, p6⟩
theorem holds_c {h : List (List Int)} {x n : Int} (h1 : 0 ≤ x) (h2 : x < h.length) : holds h x n = (h.getD x.toNat []).contains n := by
  simp [holds, h1, h2]
theorem padd_turn (e : Int) (h : List (List Int)) (x n : Int) : padd e h x n = rturn e h x n true := by
  unfold padd rturn
  by_cases h1 : may e h x n = false
  · rw [if_pos h1, if_pos h1]
  · rw [if_neg h1, if_neg h1]
    obtain ⟨p1, p2, p3, p4, p5, p6, p7⟩ := may_p (by simpa using h1)
    obtain ⟨y, rfl⟩ : ∃ y : Nat, x = y := ⟨x.toNat, by omega⟩
    have hy : y < h.length := by omega
    have hgd : h.getD y [] = h[y] := by simp [List.getD_eq_getElem?_getD, List.getElem?_eq_getElem hy]
    rw [holds_c p2 p3]
    simp only [Int.toNat_natCast, hgd, Bool.true_and, Bool.not_true, Bool.false_and]
    by_cases hc : h[y].contains n = true
    · rw [if_pos hc, if_pos hc]
    · rw [if_neg hc, if_neg hc]
      simp only [Bool.false_eq_true, if_false]
      rw [rows_set p1 hy, trow_add (row_in (right_row' p1 (List.getElem_mem hy)).1) ⟨p4, p5⟩ (by simpa using hc)]
theorem pret_turn (e : Int) (h : List (List Int)) (x n : Int) : pret e h x n = rturn e h x n false := by
  unfold pret rturn
  by_cases h1 : may e h x n = false
  · rw [if_pos h1, if_pos h1]
  · rw [if_neg h1, if_neg h1]
    obtain ⟨p1, p2, p3, p4, p5, p6, p7⟩ := may_p (by simpa using h1)
    obtain ⟨y, rfl⟩ : ∃ y : Nat, x = y := ⟨x.toNat, by omega⟩
    have hy : y < h.length := by omega
    have hgd : h.getD y [] = h[y] := by simp [List.getD_eq_getElem?_getD, List.getElem?_eq_getElem hy]
    rw [holds_c p2 p3]
    simp only [Int.toNat_natCast, hgd, Bool.false_and, Bool.not_false, Bool.true_and]
    by_cases hc : h[y].contains n = true
    · simp only [hc]
      by_cases hl : h[y].length = 1
      · simp [hl]
      · have hl' : (h[y].length == 1) = false := by simpa using hl
        simp only [hl, hl']
        rw [rows_set p1 hy, trow_del _ (row_in (right_row' p1 (List.getElem_mem hy)).1) n (n14 p4 p5)]
        simp
    · have hc : h[y].contains n = false := by simpa using hc
      simp only [hc]
      simp
def nw (r : List Int) (n : Int) (add : Bool) : List Int := trow (tst r true n add) 4 1
theorem nw_in : ∀ r ∈ subs, ∀ n ∈ ([1, 2, 3, 4] : List Int), ∀ add : Bool, nw r n add ∈ subs := by decide
theorem nw_has4 : ∀ r ∈ subs, ∀ n ∈ ([1, 2, 3, 4] : List Int), ∀ add : Bool, ∀ m ∈ ([1, 2, 3, 4] : List Int), (nw r n add).contains m = if m == n then add else r.contains m := by decide
theorem subs_14 : ∀ r ∈ subs, ∀ m ∈ r, m ∈ ([1, 2, 3, 4] : List Int) := by decide
theorem nw_ne : ∀ r ∈ subs, ∀ n ∈ ([1, 2, 3, 4] : List Int), ∀ add : Bool, (add = false → r.contains n = true ∧ r.length ≠ 1) → nw r n add ≠ [] := by decide
theorem subs_up : ∀ r ∈ subs, rowUp 0 r = true := by decide
theorem nw_has {r : List Int} (hr : r ∈ subs) {n : Int} (h1 : 1 ≤ n) (h2 : n ≤ 4) (add : Bool) (m : Int) : (nw r n add).contains m = if m == n then add else r.contains m := by
  by_cases hm : m ∈ ([1, 2, 3, 4] : List Int)
  · exact nw_has4 r hr n (n14 h1 h2) add m hm
  · have e1 : (nw r n add).contains m = false := by
      rw [Bool.eq_false_iff]; intro h
      exact hm (subs_14 _ (nw_in r hr n (n14 h1 h2) add) m (by simpa using h))
    have e2 : r.contains m = false := by
      rw [Bool.eq_false_iff]; intro h
      exact hm (subs_14 _ hr m (by simpa using h))
    have e3 : (m == n) = false := by
      rw [Bool.eq_false_iff]; intro h
      exact hm (by rw [eq_of_beq h]; exact n14 h1 h2)
    rw [e1, e2, e3]; rfl
theorem rturn_cases (e : Int) (h : List (List Int)) (x n : Int) (add : Bool) : (∃ t : Int, t ≠ 0 ∧ rturn e h x n add = (e, h, t)) ∨
    (∃ (y : Nat) (hy : y < h.length), x = y ∧ right e h = true ∧ 1 ≤ n ∧ n ≤ 4 ∧ e < 2147483647 ∧ h[y].contains n = !add ∧ (add = false → h[y].length ≠ 1) ∧ rturn e h x n add = (e + 1, h.set y (nw h[y] n add), 0)) := by
  unfold rturn
  by_cases h1 : may e h x n = false
  · rw [if_pos h1]; exact .inl ⟨1, by omega, rfl⟩
  · rw [if_neg h1]
    obtain ⟨p1, p2, p3, p4, p5, p6, p7⟩ := may_p (by simpa using h1)
    obtain ⟨y, rfl⟩ : ∃ y : Nat, x = y := ⟨x.toNat, by omega⟩
    have hy : y < h.length := by omega
    have hgd : h.getD y [] = h[y] := by simp [List.getD_eq_getElem?_getD, List.getElem?_eq_getElem hy]
    simp only [Int.toNat_natCast, hgd]
    rw [rows_set p1 hy]
    cases add with
    | true =>
      by_cases hc : h[y].contains n = true
      · simp only [hc, Bool.and_self, if_true]; exact .inl ⟨5, by omega, rfl⟩
      · have hc : h[y].contains n = false := by simpa using hc
        simp only [hc]
        exact .inr ⟨y, hy, rfl, p1, p4, p5, p7, by rw [hc]; rfl, by simp, rfl⟩
    | false =>
      by_cases hc : h[y].contains n = true
      · by_cases hl : h[y].length = 1
        · simp only [hc, hl]; exact .inl ⟨7, by omega, rfl⟩
        · have hl' : (h[y].length == 1) = false := by simpa using hl
          simp only [hc, hl']
          exact .inr ⟨y, hy, rfl, p1, p4, p5, p7, by rw [hc]; rfl, fun _ => hl, rfl⟩
      · have hc : h[y].contains n = false := by simpa using hc
        simp only [hc]; exact .inl ⟨4, by omega, rfl⟩
theorem right_set {e : Int} {h : List (List Int)} (hr : right e h = true) (he : e < 2147483647) {y : Nat} {r : List Int} (h1 : r ∈ subs) (h2 : r ≠ []) : right (e + 1) (h.set y r) = true := by
  have h0 := right_e hr
  simp only [right, Bool.and_eq_true, List.all_eq_true, decide_eq_true_eq] at hr ⊢
  refine ⟨⟨by omega, by omega, by simp; omega⟩, fun z hz => ?_⟩
  rcases List.mem_or_eq_of_mem_set hz with hz | rfl
  · exact hr.2 z hz
  · exact ⟨subs_up _ h1, by simpa using h2⟩
theorem holds_at {h : List (List Int)} {y : Nat} (hy : y < h.length) (m : Int) : holds h y m = h[y].contains m := by
  rw [holds_c (by omega) (by omega)]
  simp [List.getD_eq_getElem?_getD, List.getElem?_eq_getElem hy]
theorem rturn_done {e : Int} {h : List (List Int)} {x n : Int} {add : Bool} (ht : (rturn e h x n add).2.2 = 0) : (rturn e h x n add).1 = e + 1 ∧ right (e + 1) (rturn e h x n add).2.1 = true ∧ holds (rturn e h x n add).2.1 x n = add ∧ holds h x n = !add := by
  rcases rturn_cases e h x n add with ⟨t, h0, h1⟩ | ⟨y, hy, rfl, h1, h2, h3, h4, h5, h6, h7⟩
  · rw [h1] at ht; exact absurd ht h0
  · rw [h7]
    have hin := row_in (right_row' h1 (List.getElem_mem hy)).1
    refine ⟨rfl, right_set h1 h4 (nw_in _ hin n (n14 h2 h3) add) (nw_ne _ hin n (n14 h2 h3) add fun ha => ⟨by rw [h5, ha]; rfl, h6 ha⟩), ?_, by rw [holds_at hy, h5]⟩
    rw [holds_at (by simpa using hy)]
    simp only [List.getElem_set_self]
    rw [nw_has hin h2 h3]; simp
theorem rturn_not {e : Int} {h : List (List Int)} {x n : Int} {add : Bool} (ht : (rturn e h x n add).2.2 ≠ 0) : (rturn e h x n add).1 = e ∧ (rturn e h x n add).2.1 = h := by
  rcases rturn_cases e h x n add with ⟨t, h0, h1⟩ | ⟨y, hy, rfl, h1, h2, h3, h4, h5, h6, h7⟩
  · rw [h1]; exact ⟨rfl, rfl⟩
  · rw [h7] at ht; exact absurd rfl ht
section
theorem partsA_uniq : ∀ (cs : List Cho) (ss : List (Int × Int)) (t : Nat), ∀ p ∈ partsA t cs ss, ∀ q ∈ partsA t cs ss, p.token = q.token → p.rank = q.rank → p = q
  | [], _, t, p, h => by simp [partsA] at h
  | c :: cs, [], t, p, h => by simp [partsA] at h
  | c :: cs, s :: ss, t, p, hp => by
    intro q hq ht hr
    simp only [partsA, List.mem_append] at hp hq
    have a0 : ∀ z, z ∈ pt0 t c s.1 → z = ⟨t, 0, c.first, c.w1⟩ := by
      intro z hz; unfold pt0 at hz
      split at hz
      · simpa using hz
      · simp at hz
    have a1 : ∀ z, z ∈ pt1 t c s.2 → z = ⟨t, 1, c.second, c.w2⟩ := by
      intro z hz; unfold pt1 at hz
      split at hz
      · simpa using hz
      · simp at hz
    have a2 : ∀ z, z ∈ partsA (t + 1) cs ss → (t : Int) + 1 ≤ z.token := by
      intro z hz
      have := (partsA_in _ _ _ z hz).1
      omega
    rcases hp with (hp | hp) | hp <;> rcases hq with (hq | hq) | hq
    · rw [a0 _ hp, a0 _ hq]
    · rw [a0 _ hp, a1 _ hq] at hr; simp at hr
    · have := a2 _ hq; rw [a0 _ hp] at ht; simp only at ht; omega
    · rw [a1 _ hp, a0 _ hq] at hr; simp at hr
    · rw [a1 _ hp, a1 _ hq]
    · have := a2 _ hq; rw [a1 _ hp] at ht; simp only at ht; omega
    · have := a2 _ hp; rw [a0 _ hq] at ht; simp only at ht; omega
    · have := a2 _ hp; rw [a1 _ hq] at ht; simp only at ht; omega
    · exact partsA_uniq cs ss (t + 1) p hp q hq ht hr
def ptsN (m : Mod) (ts : List (List Int)) (n : Nat) : List Pt := partsP (layAt m n) (tokN m ts n)
def ansN (m : Mod) (ts : List (List Int)) (n : Nat) (p : Pt) : List Int := ansW (layAt m n) (tokN m ts n) p
theorem pts_uniq {m : Mod} {ts : List (List Int)} {n : Nat} {p q : Pt} (hp : p ∈ ptsN m ts n) (hq : q ∈ ptsN m ts n) (ht : p.token = q.token) (hr : p.rank = q.rank) : p = q := partsA_uniq _ _ _ p hp q hq ht hr
structure Setup (m : Mod) (ts : List (List Int)) (n0 : Nat) : Prop where
  dim : 1 ≤ m.dim ∧ m.dim ≤ 8
  nl : 1 ≤ m.lays.length ∧ m.lays.length ≤ 4
  lays : ∀ l ∈ m.lays, layRight l m.dim = true
  wide : Wide m.dim ts
  nt : 1 ≤ ts.length ∧ ts.length ≤ 16
  exps : ∀ l ∈ m.lays, l.exps.length ≤ n0
theorem setup_of {m : Mod} {pe : Int} {ph ts : List (List Int)} (h : newOk m pe ph ts = true) : Setup m ts ph.length ∧ right pe ph = true := by
  simp only [newOk, modRight, tokRight, Bool.and_eq_true, decide_eq_true_eq, List.all_eq_true, Bool.not_eq_true', decide_eq_false_iff_not] at h
  obtain ⟨⟨⟨⟨⟨⟨⟨d1, d2⟩, d3⟩, d4⟩, d5⟩, ⟨⟨t1, t2⟩, t3⟩⟩, hr⟩, h4⟩ := h
  exact ⟨⟨⟨d1, d2⟩, ⟨d3, d4⟩, d5, t3, ⟨t1, t2⟩, fun l hl => by have := h4 l hl; omega⟩, hr⟩
variable {m : Mod} {ts : List (List Int)} {n0 : Nat}
theorem Setup.lay (h : Setup m ts n0) {n : Nat} (hn : n < m.lays.length) : layAt m n = m.lays[n] ∧ layRight (layAt m n) m.dim = true ∧ (layAt m n).exps.length ≤ n0 := by
  have e : layAt m n = m.lays[n] := by simp [layAt, List.getD_eq_getElem?_getD, hn]
  rw [e]
  exact ⟨rfl, h.lays _ (List.getElem_mem hn), h.exps _ (List.getElem_mem hn)⟩
theorem Setup.tok (h : Setup m ts n0) {n : Nat} (hn : n ≤ m.lays.length) : (tokN m ts n).length = ts.length ∧ Wide m.dim (tokN m ts n) := tokN_ok h.lays h.wide n hn
theorem Setup.pts (h : Setup m ts n0) {n : Nat} (hn : n < m.lays.length) {p : Pt} (hp : p ∈ ptsN m ts n) : (0 ≤ p.token ∧ p.token < ts.length) ∧ (0 ≤ p.rank ∧ p.rank ≤ 1) ∧ 0 ≤ p.expert ∧ p.expert < (layAt m n).exps.length := by
  have h1 := partsP_in p hp
  have h2 := partsP_exp p hp
  rw [(h.tok (by omega)).1] at h1
  exact ⟨⟨h1.1, h1.2.1⟩, h1.2.2, h2⟩
theorem Setup.few (h : Setup m ts n0) {n : Nat} (hn : n < m.lays.length) : 1 ≤ (ptsN m ts n).length ∧ (ptsN m ts n).length ≤ 32 := by
  have h1 := partsP_len (layAt m n) (tokN m ts n)
  rw [(h.tok (by omega)).1] at h1
  have h2 := parts_ne (m := m) (ts := tokN m ts n) (h.lay hn).2.1 (by rw [(h.tok (by omega)).1]; exact h.nt.1)
  have := h.nt.2
  refine ⟨?_, by unfold ptsN; omega⟩
  exact List.length_pos_iff.2 h2
theorem okS_held {v : List Int} (h : heldRow v = true) : v.all okS = true := by
  rw [heldRow_iff] at h
  rw [List.all_eq_true]
  intro n hn
  have := held_in (h n hn)
  simp only [okS, Bool.and_eq_true, decide_eq_true_eq]
  omega
theorem scores_held (rows : List (List Int)) (v : List Int) : heldRow (scoresP rows v) = true := by
  rw [heldRow_iff]
  intro n hn
  simp only [scoresP, List.mem_map] at hn
  obtain ⟨l, -, rfl⟩ := hn
  exact hold_id (dot_in l v 0 (by omega))
theorem Setup.vec (h : Setup m ts n0) {n : Nat} (hn : n < m.lays.length) {p : Pt} (hp : p ∈ ptsN m ts n) : (((tokN m ts n).getD p.token.toNat []).length : Int) = m.dim ∧ heldRow ((tokN m ts n).getD p.token.toNat []) = true := by
  obtain ⟨⟨p1, p2⟩, -⟩ := h.pts hn hp
  obtain ⟨k1, k2⟩ := h.tok (n := n) (by omega)
  exact wide_get k2 (by omega)
theorem Setup.ans (h : Setup m ts n0) {n : Nat} (hn : n < m.lays.length) {p : Pt} (hp : p ∈ ptsN m ts n) : ((ansN m ts n p).length : Int) = m.dim ∧ heldRow (ansN m ts n p) = true := by
  obtain ⟨-, -, p3, p4⟩ := h.pts hn hp
  exact ⟨(exR_run (layR_exp (h.lay hn).2.1 p3 p4) (h.vec hn hp).1).2, scores_held _ _⟩
def Kin (m : Mod) (ts : List (List Int)) (a : Msg) (n : Nat) (p : Pt) : Prop := a.batch = 1 ∧ a.layer = n ∧ a.token = p.token ∧ a.rank = p.rank ∧ a.expert = p.expert ∧ ((a.kind = 1 ∧ a.fr = 0 ∧ (1 ≤ a.to ∧ a.to ≤ 4) ∧ a.vec = (tokN m ts n).getD p.token.toNat []) ∨ (a.kind = 2 ∧ a.to = 0 ∧ a.vec = ansN m ts n p) ∨ (a.kind = 3 ∧ a.to = 0))
def Good (m : Mod) (ts : List (List Int)) (s : List UInt8) : Prop := ∃ a n p, s = putB a ∧ wrightM a = true ∧ n < m.lays.length ∧ p ∈ ptsN m ts n ∧ Kin m ts a n p
def GoodE (m : Mod) (ts : List (List Int)) (e : Ent) : Prop := ∃ n p, n < m.lays.length ∧ p ∈ ptsN m ts n ∧ e.key = ⟨1, (n : Int), p.token, p.rank⟩ ∧ e.vec = ansN m ts n p
structure Inv0 (m : Mod) (ts : List (List Int)) (n0 : Nat) (F : Flt) : Prop where
  mo : F.m = m
  at_ : F.at_ ≤ m.lays.length
  toks : F.toks = tokN m ts F.at_
  parts : F.at_ < m.lays.length → F.parts = ptsN m ts F.at_
  lens : F.at_ < m.lays.length → F.ans.length = F.parts.length ∧ F.answd.length = F.parts.length
  ans : F.at_ < m.lays.length → ∀ (i : Nat) (hi : i < F.parts.length), F.answd.getD i false = true → F.ans.getD i [] = ansN m ts F.at_ F.parts[i]
  bag : ∀ s ∈ F.bag, Good m ts s
  full : F.bag.length ≤ 200
  led : ∀ l ∈ F.led, (∀ e ∈ l, GoodE m ts e) ∧ (l.map (·.key)).Nodup
  led0 : F.led.length = 5 ∧ F.led.getD 0 [] = []
  right : right F.pe F.ph = true ∧ F.ph.length = n0
def Settled (m : Mod) (F : Flt) : Prop := F.at_ < m.lays.length → false ∈ F.answd
theorem Inv0.bagged {F : Flt} (h : Inv0 m ts n0 F) {b : List (List UInt8)} (h1 : ∀ s ∈ b, Good m ts s) (h2 : b.length ≤ 200) : Inv0 m ts n0 { F with bag := b } := ⟨h.mo, h.at_, h.toks, h.parts, h.lens, h.ans, h1, h2, h.led, h.led0, h.right⟩
theorem sendB_is {b : List (List UInt8)} {a : Msg} : sendB b a = b ∨ (wrightM a = true ∧ b.length < 200 ∧ sendB b a = b ++ [putB a]) := by
  unfold sendB bagPut
  split
  · rename_i h
    split
    · rename_i h2; exact .inr ⟨h, h2, rfl⟩
    · exact .inl rfl
  · exact .inl rfl
theorem sendB_good {b : List (List UInt8)} {a : Msg} (hb : ∀ s ∈ b, Good m ts s) (h2 : b.length ≤ 200) {n : Nat} {p : Pt} (hn : n < m.lays.length) (hp : p ∈ ptsN m ts n) (hk : Kin m ts a n p) : (∀ s ∈ sendB b a, Good m ts s) ∧ (sendB b a).length ≤ 200 := by
  rcases sendB_is (b := b) (a := a) with e | ⟨e1, e2, e⟩
  · rw [e]; exact ⟨hb, h2⟩
  · rw [e]
    refine ⟨fun s hs => ?_, by simp; omega⟩
    rcases List.mem_append.1 hs with hs | hs
    · exact hb s hs
    · rw [List.mem_singleton] at hs
      exact ⟨a, n, p, hs, e1, hn, hp, hk⟩
theorem pick_in {pe : Int} {ph : List (List Int)} (hr : right pe ph = true) {x key : Int} (h0 : 0 ≤ x) (h1 : x < ph.length) (hk : 0 ≤ key) : (1 ≤ (ppick pe ph x key).1 ∧ (ppick pe ph x key).1 ≤ 4) ∧ holds ph x (ppick pe ph x key).1 = true := by
  have hxl : x.toNat < ph.length := by omega
  have hg : ph.getD x.toNat [] = ph[x.toNat] := by simp [List.getD_eq_getElem?_getD, hxl]
  obtain ⟨u1, u2⟩ := right_row' hr (List.getElem_mem hxl)
  have hpos : 0 < ph[x.toNat].length := List.length_pos_iff.2 u2
  have e : (ppick pe ph x key).1 = ph[x.toNat].getD (key.toNat % ph[x.toNat].length) 0 := by
    unfold ppick
    rw [if_pos ⟨hr, h0, h1, hk⟩]
    simp only [hg]
  have hlt : key.toNat % ph[x.toNat].length < ph[x.toNat].length := Nat.mod_lt _ hpos
  have hmem : (ppick pe ph x key).1 ∈ ph[x.toNat] := by
    rw [e]
    have : ph[x.toNat].getD (key.toNat % ph[x.toNat].length) 0 = ph[x.toNat][key.toNat % ph[x.toNat].length] := by simp [List.getD_eq_getElem?_getD, hlt]
    rw [this]
    exact List.getElem_mem hlt
  have h4 := (rowUp_is u1).mem hmem
  refine ⟨by simp at h4; omega, ?_⟩
  unfold holds
  rw [hg, decide_eq_true (show 0 ≤ x ∧ x < ph.length from ⟨h0, h1⟩)]
  simp only [Bool.true_and, List.contains_iff_mem]
  exact hmem
theorem ask_kin {F : Flt} (hS : Setup m ts n0) (h : Inv0 m ts n0 F) (hc : F.at_ < m.lays.length) {p : Pt} (hp : p ∈ ptsN m ts F.at_) : wrightM (askM F p) = true ∧ Kin m ts (askM F p) F.at_ p ∧ holds F.ph p.expert (askM F p).to = true ∧ (askM F p).kind = 1 ∧ (askM F p).epoch = F.pe := by
  obtain ⟨⟨p1, p2⟩, ⟨p3, p4⟩, p5, p6⟩ := hS.pts hc hp
  have hx := (hS.lay hc).2.2
  have hr := h.right
  have hpk := pick_in hr.1 (x := p.expert) (key := p.token + p.rank) p5 (by omega) (by omega)
  have hv := hS.vec hc hp
  have he := right_e hr.1
  have hd := hS.dim
  have hnt := hS.nt
  have hnl := hS.nl
  have evec : (askM F p).vec = (tokN m ts F.at_).getD p.token.toNat [] := by unfold askM; rw [h.toks]
  refine ⟨?_, ⟨rfl, rfl, rfl, rfl, rfl, .inl ⟨rfl, rfl, hpk.1, evec⟩⟩, hpk.2, rfl, rfl⟩
  have h1 : (nums (askM F p)).all okN = true := by
    obtain ⟨⟨k1, k2⟩, -⟩ := hpk
    simp only [nums, askM, okN, List.all_cons, List.all_nil, Bool.and_eq_true, decide_eq_true_eq]
    refine ⟨?_, ?_, ?_, ?_, ?_, ?_, ?_, ?_, ?_, ?_, trivial⟩ <;> omega
  have h4 : (askM F p).kind = 1 := rfl
  unfold wrightM
  rw [h1, evec, okS_held hv.2, h4, decide_eq_true (show ((tokN m ts F.at_).getD p.token.toNat []).length ≤ 8 by omega)]
  rfl
theorem askL_good {F : Flt} (hS : Setup m ts n0) (h : Inv0 m ts n0 F) (hc : F.at_ < m.lays.length) : ∀ (l : List (Pt × Bool)) (b : List (List UInt8)), (∀ x ∈ l, x.1 ∈ ptsN m ts F.at_) → (∀ s ∈ b, Good m ts s) → b.length ≤ 200 → (∀ s ∈ askL F l b, Good m ts s) ∧ (askL F l b).length ≤ 200
  | [], b, _, hb, h2 => ⟨hb, h2⟩
  | x :: r, b, hx, hb, h2 => by
    unfold askL
    have hxp := hx x (by simp)
    have hs := sendB_good (a := askM F x.1) hb h2 hc hxp (ask_kin hS h hc hxp).2.1
    split
    · exact askL_good hS h hc r b (fun y hy => hx y (by simp [hy])) hb h2
    · exact askL_good hS h hc r _ (fun y hy => hx y (by simp [hy])) hs.1 hs.2
theorem inv_ask {F : Flt} (hS : Setup m ts n0) (h : Inv0 m ts n0 F) : Inv0 m ts n0 (askP F) := by
  unfold askP
  split
  · rename_i hc
    rw [h.mo] at hc
    have hp := h.parts hc
    obtain ⟨k1, k2⟩ := askL_good hS h hc (F.parts.zip F.answd) F.bag (fun x hx => by
      have := (List.of_mem_zip (a := x.1) (b := x.2) hx).1
      rwa [hp] at this) h.bag h.full
    exact h.bagged k1 k2
  · exact h
theorem settled_ask {F : Flt} (h : Settled m F) : Settled m (askP F) := by
  obtain ⟨e1, e2, -, -, -, -, -, -, e9⟩ := askP_m F
  unfold Settled
  rw [e2, e9]; exact h
theorem inv_step {F : Flt} (hS : Setup m ts n0) (h : Inv0 m ts n0 F) (hc : F.at_ < m.lays.length) (hf : ¬ false ∈ F.answd) : Inv0 m ts n0 (stepP F) ∧ Settled m (stepP F) ∧ (stepP F).at_ = F.at_ + 1 := by
  have hp := h.parts hc
  obtain ⟨l1, l2⟩ := h.lens hc
  have hans : F.ans = (ptsN m ts F.at_).map (ansN m ts F.at_) := by
    apply List.ext_getElem
    · rw [l1, hp]; simp
    · intro i h1 h2
      have hi : i < F.parts.length := by omega
      have hb : F.answd.getD i false = true := by
        have hlt : i < F.answd.length := by omega
        have e : F.answd.getD i false = F.answd[i] := by simp [List.getD_eq_getElem?_getD, hlt]
        rw [e]
        cases hx : F.answd[i] with
        | true => rfl
        | false => exact absurd (hx ▸ List.getElem_mem hlt) hf
      have := h.ans hc i hi hb
      have e : F.ans.getD i [] = F.ans[i] := by simp [List.getD_eq_getElem?_getD, h1]
      rw [e] at this
      rw [this]
      simp only [List.getElem_map, hp]
  have htk : (onP F).toks = tokN m ts (F.at_ + 1) := by
    simp only [onP, hp, hans, h.toks, tokN, nextP]
    rfl
  unfold stepP beginP
  by_cases c : F.at_ + 1 < m.lays.length
  · rw [if_pos (by simp only [onP, h.mo]; exact c)]
    have hN : Inv0 m ts n0 (newP (onP F)) := by
      have eP : (newP (onP F)).parts = ptsN m ts (F.at_ + 1) := by
        simp only [newP, htk, ptsN]
        simp only [onP, h.mo]
      have eL : (newP (onP F)).answd = List.replicate (newP (onP F)).parts.length false := rfl
      refine ⟨h.mo, Nat.le_of_lt c, htk, fun _ => eP, fun _ => ⟨by simp [newP], by simp [newP]⟩, fun _ i hi hb => ?_, h.bag, h.full, h.led, h.led0, h.right⟩
      rw [eL] at hb
      simp [List.getD_eq_getElem?_getD, hi] at hb
    have hSt : Settled m (newP (onP F)) := fun _ => by
      have eP : (newP (onP F)).parts = ptsN m ts (F.at_ + 1) := by
        simp only [newP, htk, ptsN]
        simp only [onP, h.mo]
      have eL : (newP (onP F)).answd = List.replicate (newP (onP F)).parts.length false := rfl
      rw [eL, eP]
      exact List.mem_replicate.2 ⟨by have := (hS.few c).1; omega, rfl⟩
    exact ⟨inv_ask hS hN, settled_ask hSt, (askP_m _).2.1⟩
  · rw [if_neg (by simp only [onP, h.mo]; exact c)]
    have hz : ∀ {X : Prop}, (onP F).at_ < m.lays.length → X := fun hx => absurd hx c
    exact ⟨⟨h.mo, hc, htk, hz, hz, hz, h.bag, h.full, h.led, h.led0, h.right⟩, hz, rfl⟩
theorem inv_come {F : Flt} (hS : Setup m ts n0) : ∀ (k : Nat) {F : Flt}, Inv0 m ts n0 F → m.lays.length - F.at_ ≤ k → Inv0 m ts n0 (comeN k F) ∧ Settled m (comeN k F) ∧ F.at_ ≤ (comeN k F).at_
  | 0, F, h, hk => ⟨h, fun hc => by exfalso; have : F.at_ < m.lays.length := hc; omega, Nat.le_refl _⟩
  | k + 1, F, h, hk => by
    unfold comeN
    by_cases c : F.at_ < F.m.lays.length ∧ ¬ false ∈ F.answd
    · rw [if_pos c]
      obtain ⟨c1, c2⟩ := c
      rw [h.mo] at c1
      obtain ⟨s1, s2, s3⟩ := inv_step hS h c1 c2
      obtain ⟨i1, i2, i3⟩ := inv_come (F := F) hS k s1 (by omega)
      exact ⟨i1, i2, by omega⟩
    · rw [if_neg c]
      refine ⟨h, fun hc => ?_, Nat.le_refl _⟩
      rw [h.mo] at c
      by_cases hf : false ∈ F.answd
      · exact hf
      · exact absurd ⟨hc, hf⟩ c
theorem inv_comeP {F : Flt} (hS : Setup m ts n0) (h : Inv0 m ts n0 F) : Inv0 m ts n0 (comeP F) ∧ Settled m (comeP F) ∧ F.at_ ≤ (comeP F).at_ := by
  unfold comeP
  exact inv_come (F := F) hS _ h (by rw [h.mo]; omega)
theorem take_bag {b : List (List UInt8)} {i : Int} : (∀ s ∈ (bagTake b i).2.1, s ∈ b) ∧ (bagTake b i).2.1.length ≤ b.length ∧ ((bagTake b i).2.2 = true → (bagTake b i).1 ∈ b) := by
  unfold bagTake
  split
  · rename_i hc
    refine ⟨fun s hs => ?_, by simp; omega, fun _ => ?_⟩
    · rcases List.mem_append.1 hs with hs | hs
      · exact List.mem_of_mem_take hs
      · exact List.mem_of_mem_drop hs
    · have hlt : i.toNat < b.length := by omega
      have e : b.getD i.toNat [] = b[i.toNat] := by simp [List.getD_eq_getElem?_getD, hlt]
      rw [e]
      exact List.getElem_mem hlt
  · exact ⟨fun s hs => hs, Nat.le_refl _, fun h => by cases h⟩
theorem find_none {l : List Ent} {k : LKey} (h : (findP l k).2 = false) : ¬ k ∈ l.map (·.key) := by
  unfold findP at h
  split at h
  · rename_i hc
    rw [fidx_neg] at hc
    intro hm
    obtain ⟨e, he, hk⟩ := List.mem_map.1 hm
    rw [List.any_eq_false] at hc
    exact hc e he (by simp [atKey, hk])
  · cases h
theorem fidx_hit {α : Type} (p : α → Bool) : ∀ (l : List α) (i : Nat), fidx p l = i → ∃ h : i < l.length, p l[i] = true := by
  intro l
  induction l with
  | nil => intro i h; simp [fidx] at h
  | cons x r ih =>
    intro i h
    unfold fidx at h
    split at h
    · rename_i hx
      have : i = 0 := by omega
      subst this
      exact ⟨by simp, hx⟩
    · split at h
      · omega
      · rename_i h2
        obtain ⟨j, rfl⟩ : ∃ j, i = j + 1 := ⟨i - 1, by omega⟩
        obtain ⟨hj, hp⟩ := ih j (by omega)
        exact ⟨by simp; omega, hp⟩
theorem find_some {l : List Ent} {k : LKey} (h : (findP l k).2 = true) : ∃ e ∈ l, e.key = k ∧ (findP l k).1 = e.vec := by
  unfold findP at h ⊢
  split
  · rename_i hc; rw [if_pos hc] at h; cases h
  · rename_i hc
    obtain ⟨i, hi⟩ : ∃ i : Nat, fidx (atKey k) l = i := ⟨(fidx (atKey k) l).toNat, by omega⟩
    obtain ⟨h1, h2⟩ := fidx_hit _ _ _ hi
    rw [hi]
    have e : l.getD ((i : Int)).toNat ent0 = l[i] := by simp [List.getD_eq_getElem?_getD, h1]
    refine ⟨l[i], List.getElem_mem h1, by simpa [atKey] using h2, by simp only [e]⟩
end
section
variable {m : Mod} {ts : List (List Int)} {n0 : Nat}
theorem key_kin {a : Msg} {n : Nat} {p : Pt} (hk : Kin m ts a n p) : keyOf a = ⟨1, (n : Int), p.token, p.rank⟩ := by
  obtain ⟨k1, k2, k3, k4, k5, k6⟩ := hk
  unfold keyOf
  rw [k1, k2, k3, k4]
theorem led_at {F : Flt} (h : Inv0 m ts n0 F) {t : Int} (h1 : 1 ≤ t ∧ t ≤ 4) : ledAt F t ∈ F.led := by
  have hlt : t.toNat < F.led.length := by rw [h.led0.1]; omega
  unfold ledAt
  have e : F.led.getD t.toNat [] = F.led[t.toNat] := by simp [List.getD_eq_getElem?_getD, hlt]
  rw [e]; exact List.getElem_mem hlt
theorem workV_is {F : Flt} (h : Inv0 m ts n0 F) {a : Msg} {n : Nat} {p : Pt} (hp : p ∈ ptsN m ts n) (hk : Kin m ts a n p) (h1 : a.kind = 1) {l : List Ent} (hl : ∀ e ∈ l, GoodE m ts e) : workV F.m l a = ansN m ts n p := by
  unfold workV
  split
  · rename_i hf
    obtain ⟨e, he, e1, e2⟩ := find_some hf
    obtain ⟨n', p', g1, g2, g3, g4⟩ := hl e he
    rw [e2, g4]
    rw [e1, key_kin hk] at g3
    simp only [LKey.mk.injEq] at g3
    obtain ⟨-, q1, q2, q3⟩ := g3
    obtain rfl : n = n' := by omega
    rw [pts_uniq hp g2 q2 q3]
  · obtain ⟨k1, k2, k3, k4, k5, k6⟩ := hk
    rcases k6 with ⟨-, -, -, k9⟩ | ⟨k, -⟩ | ⟨k, -⟩
    · rw [h.mo, k2, k5, k9]; rfl
    · omega
    · omega
theorem node_ok {F : Flt} (h : Inv0 m ts n0 F) {a : Msg} {n : Nat} {p : Pt} (hn : n < m.lays.length) (hp : p ∈ ptsN m ts n) (hk : Kin m ts a n p) (h1 : a.kind = 1) : (∀ e ∈ (nodeP F a).1, GoodE m ts e) ∧ ((nodeP F a).1.map (·.key)).Nodup ∧ ((nodeP F a).2.2 = true → Kin m ts (nodeP F a).2.1 n p) := by
  have hto : (1 ≤ a.to ∧ a.to ≤ 4) ∧ a.fr = 0 := by
    obtain ⟨k1, k2, k3, k4, k5, k6⟩ := hk
    rcases k6 with ⟨-, f, t, -⟩ | ⟨k, -⟩ | ⟨k, -⟩
    · exact ⟨t, f⟩
    · omega
    · omega
  obtain ⟨l1, l2⟩ := h.led _ (led_at h hto.1)
  have hv := workV_is h hp hk h1 l1
  obtain ⟨k1, k2, k3, k4, k5, k6⟩ := hk
  unfold nodeP workP
  split
  · exact ⟨l1, l2, fun hh => by cases hh⟩
  · split
    · exact ⟨l1, l2, fun _ => ⟨k1, k2, k3, k4, k5, .inr (.inr ⟨rfl, hto.2⟩)⟩⟩
    · refine ⟨?_, ?_, fun _ => ⟨k1, k2, k3, k4, k5, .inr (.inl ⟨rfl, hto.2, hv⟩)⟩⟩
      · simp only [workL]
        split
        · exact l1
        · intro e he
          rcases List.mem_append.1 he with he | he
          · exact l1 e he
          · rw [List.mem_singleton] at he
            rw [he]
            exact ⟨n, p, hn, hp, key_kin ⟨k1, k2, k3, k4, k5, k6⟩, hv⟩
      · simp only [workL]
        split
        · exact l2
        · rename_i hf
          have := find_none (by simpa using hf)
          rw [List.map_append, List.nodup_append]
          refine ⟨l2, by simp, ?_⟩
          intro x hx y hy
          simp only [List.map_cons, List.map_nil, List.mem_singleton] at hy
          rintro rfl
          rw [hy] at hx
          exact this hx
theorem inv_work {F : Flt} (hS : Setup m ts n0) (h : Inv0 m ts n0 F) {a : Msg} {n : Nat} {p : Pt} (hn : n < m.lays.length) (hp : p ∈ ptsN m ts n) (hk : Kin m ts a n p) (h1 : a.kind = 1) : Inv0 m ts n0 (workF F a) := by
  obtain ⟨o1, o2, o3⟩ := node_ok h hn hp hk h1
  have hto : 1 ≤ a.to ∧ a.to ≤ 4 := by
    obtain ⟨-, -, -, -, -, k6⟩ := hk
    rcases k6 with ⟨-, f, t, -⟩ | ⟨k, -⟩ | ⟨k, -⟩
    · exact t
    · omega
    · omega
  have hb : (∀ s ∈ (workF F a).bag, Good m ts s) ∧ (workF F a).bag.length ≤ 200 := by
    simp only [workF]
    split
    · rename_i hc
      exact sendB_good h.bag h.full hn hp (o3 hc)
    · exact ⟨h.bag, h.full⟩
  refine ⟨h.mo, h.at_, h.toks, h.parts, h.lens, h.ans, hb.1, hb.2, ?_, ?_, h.right⟩
  · intro l hl
    simp only [workF] at hl
    rcases List.mem_or_eq_of_mem_set hl with hl | rfl
    · exact h.led l hl
    · exact ⟨o1, o2⟩
  · refine ⟨by simp only [workF, List.length_set]; exact h.led0.1, ?_⟩
    have := h.led0.2
    simp only [workF]
    rw [List.getD_eq_getElem?_getD] at this ⊢
    rw [List.getElem?_set_ne (by omega)]
    exact this
theorem inv_set {F : Flt} (hS : Setup m ts n0) (h : Inv0 m ts n0 F) {a : Msg} {n : Nat} {p : Pt} (hn : n < m.lays.length) (hp : p ∈ ptsN m ts n) (hk : Kin m ts a n p) (hc : goodA F a ∧ 0 ≤ fidx (hitP a) F.parts ∧ F.answd.getD (fidx (hitP a) F.parts).toNat true = false) : Inv0 m ts n0 (setP F (fidx (hitP a) F.parts).toNat a.vec) := by
  obtain ⟨⟨g1, g2, g3, g4, g5⟩, c2, c3⟩ := hc
  rw [h.mo] at g5
  obtain ⟨k1, k2, k3, k4, k5, k6⟩ := hk
  have hv : a.vec = ansN m ts n p := by
    rcases k6 with ⟨k, -⟩ | ⟨-, -, k⟩ | ⟨k, -⟩
    · omega
    · exact k
    · omega
  obtain rfl : n = F.at_ := by omega
  obtain ⟨i, hi⟩ : ∃ i : Nat, fidx (hitP a) F.parts = i := ⟨(fidx (hitP a) F.parts).toNat, by omega⟩
  obtain ⟨i1, i2⟩ := fidx_hit _ _ _ hi
  simp only [hitP, Bool.and_eq_true, decide_eq_true_eq] at i2
  have hx : ansN m ts F.at_ F.parts[i] = a.vec := by
    rw [hv]
    unfold ansN ansW
    rw [i2.1.1, i2.2, k3, k5]
  obtain ⟨e1, e2⟩ := h.lens g5
  rw [hi, Int.toNat_natCast]
  refine ⟨h.mo, h.at_, h.toks, h.parts, fun _ => ⟨by simp only [setP, List.length_set]; exact e1, by simp only [setP, List.length_set]; exact e2⟩, fun _ j hj hb => ?_, h.bag, h.full, h.led, h.led0, h.right⟩
  simp only [setP] at hb hj ⊢
  rw [List.getD_eq_getElem?_getD] at hb ⊢
  by_cases hij : i = j
  · subst hij
    rw [List.getElem?_set_self (by omega)]
    exact hx.symm
  · rw [List.getElem?_set_ne hij] at hb ⊢
    have := h.ans g5 j hj (by rw [List.getD_eq_getElem?_getD]; exact hb)
    rw [List.getD_eq_getElem?_getD] at this
    exact this
theorem inv_answer {F : Flt} (hS : Setup m ts n0) (h : Inv0 m ts n0 F) (hs : Settled m F) {a : Msg} {n : Nat} {p : Pt} (hn : n < m.lays.length) (hp : p ∈ ptsN m ts n) (hk : Kin m ts a n p) : Inv0 m ts n0 (answerP F a) ∧ Settled m (answerP F a) ∧ F.at_ ≤ (answerP F a).at_ := by
  unfold answerP
  split
  · rename_i hc
    obtain ⟨q1, q2, q3⟩ := inv_comeP hS (inv_set hS h hn hp hk hc)
    exact ⟨q1, q2, q3⟩
  · exact ⟨h, hs, Nat.le_refl _⟩
theorem inv_got {F : Flt} (hS : Setup m ts n0) (h : Inv0 m ts n0 F) (hs : Settled m F) {s : List UInt8} (hg : Good m ts s) : Inv0 m ts n0 (gotP F s) ∧ Settled m (gotP F s) ∧ F.at_ ≤ (gotP F s).at_ := by
  obtain ⟨a, n, p, rfl, hw, hn, hp, hk⟩ := hg
  unfold gotP
  rw [take_put hw]
  simp only [ne_eq, not_true_eq_false, if_false]
  by_cases h0 : a.to = 0
  · rw [if_pos h0]; exact inv_answer hS h hs hn hp hk
  · rw [if_neg h0]
    have hk1 : a.kind = 1 ∧ a.to ≤ 4 := by
      obtain ⟨-, -, -, -, -, k6⟩ := hk
      rcases k6 with ⟨k, f, t, -⟩ | ⟨-, k, -⟩ | ⟨-, k⟩
      · exact ⟨k, t.2⟩
      · exact absurd k h0
      · exact absurd k h0
    rw [if_pos hk1.2]
    exact ⟨inv_work hS h hn hp hk hk1.1, hs, Nat.le_refl _⟩
theorem inv_delv {F : Flt} (hS : Setup m ts n0) (h : Inv0 m ts n0 F) (hs : Settled m F) (i : Int) : Inv0 m ts n0 (delvP F i).1 ∧ Settled m (delvP F i).1 ∧ F.at_ ≤ (delvP F i).1.at_ := by
  unfold delvP
  split
  · rename_i hc
    obtain ⟨t1, t2, t3⟩ := take_bag (b := F.bag) (i := i)
    have := h.full
    exact inv_got hS (h.bagged (fun s hs => h.bag s (t1 s hs)) (by omega)) hs (h.bag _ (t3 hc))
  · exact ⟨h, hs, Nat.le_refl _⟩
theorem inv_drop {F : Flt} (h : Inv0 m ts n0 F) (i : Int) : Inv0 m ts n0 (dropP F i).1 := by
  obtain ⟨t1, t2, t3⟩ := take_bag (b := F.bag) (i := i)
  have := h.full
  exact h.bagged (fun s hs => h.bag s (t1 s hs)) (by omega)
theorem inv_twice {F : Flt} (h : Inv0 m ts n0 F) (i : Int) : Inv0 m ts n0 (twiceP F i).1 := by
  unfold twiceP
  split
  · rename_i hc
    have hlt : i.toNat < F.bag.length := by omega
    have hin : F.bag.getD i.toNat [] ∈ F.bag := by
      have e : F.bag.getD i.toNat [] = F.bag[i.toNat] := by simp [List.getD_eq_getElem?_getD, hlt]
      rw [e]; exact List.getElem_mem hlt
    have hf := h.full
    simp only [bagTwice, if_pos hc, bagPut]
    split
    · refine h.bagged (fun s hs => ?_) (by simp; omega)
      rcases List.mem_append.1 hs with hs | hs
      · exact h.bag s hs
      · rw [List.mem_singleton] at hs; rw [hs]; exact h.bag _ hin
    · exact h
  · exact h
theorem turn_ok {e : Int} {ph : List (List Int)} (hr : right e ph = true) (x n : Int) (add : Bool) : right (rturn e ph x n add).1 (rturn e ph x n add).2.1 = true ∧ (rturn e ph x n add).2.1.length = ph.length := by
  have hl : (rturn e ph x n add).2.1.length = ph.length := by
    rcases rturn_cases e ph x n add with ⟨t, h0, h1⟩ | ⟨y, hy, rfl, h1, h2, h3, h4, h5, h6, h7⟩
    · rw [h1]
    · rw [h7]; simp
  by_cases ht : (rturn e ph x n add).2.2 = 0
  · obtain ⟨h1, h2, -⟩ := rturn_done ht
    rw [h1]; exact ⟨h2, hl⟩
  · obtain ⟨h1, h2⟩ := rturn_not ht
    rw [h1, h2]; exact ⟨hr, rfl⟩
theorem inv_add {F : Flt} (h : Inv0 m ts n0 F) (x n : Int) : Inv0 m ts n0 (addP F x n).1 := by
  have := turn_ok h.right.1 x n true
  unfold addP
  rw [padd_turn]
  exact ⟨h.mo, h.at_, h.toks, h.parts, h.lens, h.ans, h.bag, h.full, h.led, h.led0, ⟨this.1, by rw [← h.right.2]; exact this.2⟩⟩
theorem inv_ret {F : Flt} (h : Inv0 m ts n0 F) (x n : Int) : Inv0 m ts n0 (retP F x n).1 := by
  have := turn_ok h.right.1 x n false
  unfold retP
  rw [pret_turn]
  exact ⟨h.mo, h.at_, h.toks, h.parts, h.lens, h.ans, h.bag, h.full, h.led, h.led0, ⟨this.1, by rw [← h.right.2]; exact this.2⟩⟩
def Inv (m : Mod) (ts : List (List Int)) (n0 : Nat) (F : Flt) : Prop := Inv0 m ts n0 F ∧ Settled m F
theorem inv_start {pe : Int} {ph : List (List Int)} (h : newOk m pe ph ts = true) : Inv m ts ph.length (startF m pe ph ts) := by
  obtain ⟨hS, hr⟩ := setup_of h
  have hz : 0 < m.lays.length := by have := hS.nl; omega
  have hN : Inv0 m ts ph.length (newP (newF m pe ph ts)) := by
    have eL : (newP (newF m pe ph ts)).answd = List.replicate (newP (newF m pe ph ts)).parts.length false := rfl
    refine ⟨rfl, Nat.zero_le _, rfl, fun _ => rfl, fun _ => ⟨by simp [newP], by simp [newP]⟩, fun _ i hi hb => ?_, by simp [newP, newF], by simp [newP, newF], by simp [newP, newF], ⟨rfl, rfl⟩, ⟨hr, rfl⟩⟩
    rw [eL] at hb
    simp [List.getD_eq_getElem?_getD, hi] at hb
  rw [start_is h]
  refine ⟨inv_ask hS hN, settled_ask fun _ => ?_⟩
  have eL : (newP (newF m pe ph ts)).answd = List.replicate (ptsN m ts 0).length false := rfl
  rw [eL]
  exact List.mem_replicate.2 ⟨by have := (hS.few hz).1; omega, rfl⟩
theorem inv_done {F : Flt} (h : Inv m ts n0 F) : doneP F = if F.at_ < m.lays.length then ([], false) else (tokN m ts m.lays.length, true) := by
  unfold doneP
  rw [h.1.mo]
  split
  · rfl
  · rename_i hc
    have := h.1.at_
    have e : F.at_ = m.lays.length := by omega
    rw [h.1.toks, e]
end
abbrev shT : List (List Int) := [[100], [50], [7]]
def Gd (F : Flt) : Prop := Inv shM shT 2 F
theorem sh_setup : Setup shM shT 2 := (setup_of sh_ok).1
theorem gd_start : Gd shF := inv_start sh_ok
theorem gd_step (F : Flt) (s : List UInt8) (h : Gd F) : Gd (lineP F s).1 := by
  have hS := sh_setup
  have hd := fun x => inv_delv hS h.1 h.2 x
  unfold lineP
  split
  · exact h
  · next l hl =>
    unfold cmdP
    split
    · exact ⟨inv_ask hS h.1, settled_ask h.2⟩
    split
    · exact ⟨(hd _).1, (hd _).2.1⟩
    split
    · exact ⟨inv_drop h.1 _, h.2⟩
    split
    · refine ⟨inv_twice h.1 _, ?_⟩
      unfold twiceP
      split <;> exact h.2
    split
    · exact ⟨inv_add h.1 _ _, h.2⟩
    split
    · exact ⟨inv_ret h.1 _ _, h.2⟩
    split
    · exact h
    split
    · exact h
    · exact h
theorem tok_fin : ((tokN shM shT 1).flatten.all fun n => decide (0 ≤ n) && decide (n ≤ 1000000)) = true ∧ (tokN shM shT 1).flatten.length ≤ 100 := by decide +kernel
theorem gd_done {F : Flt} (h : Gd F) : (∀ n ∈ (doneP F).1.flatten, 0 ≤ n ∧ n ≤ 1000000) ∧ (doneP F).1.flatten.length ≤ 100 := by
  rw [inv_done h]
  split
  · exact ⟨fun n hn => by simp at hn, by simp⟩
  · refine ⟨fun n hn => ?_, tok_fin.2⟩
    have := List.all_eq_true.1 tok_fin.1 n hn
    simpa using this
theorem gd_held : Held Gd := ⟨gd_step, fun F h n hn => by have := (gd_done h).1 n hn; exact ⟨by omega, by omega⟩, fun F h => (gd_done h).2⟩
section
variable {m : Mod} {ts : List (List Int)} {n0 : Nat}
theorem partsA_nodup : ∀ (cs : List Cho) (ss : List (Int × Int)) (t : Nat), (partsA t cs ss).Nodup
  | [], _, t => by simp [partsA]
  | c :: cs, [], t => by simp [partsA]
  | c :: cs, s :: ss, t => by
    have a0 : ∀ z, z ∈ pt0 t c s.1 → z = ⟨t, 0, c.first, c.w1⟩ := by
      intro z hz; unfold pt0 at hz
      split at hz
      · simpa using hz
      · simp at hz
    have a1 : ∀ z, z ∈ pt1 t c s.2 → z = ⟨t, 1, c.second, c.w2⟩ := by
      intro z hz; unfold pt1 at hz
      split at hz
      · simpa using hz
      · simp at hz
    have n0 : (pt0 t c s.1).Nodup := by unfold pt0; split <;> simp
    have n1 : (pt1 t c s.2).Nodup := by unfold pt1; split <;> simp
    simp only [partsA]
    rw [List.nodup_append, List.nodup_append]
    refine ⟨⟨n0, n1, fun x hx y hy e => ?_⟩, partsA_nodup cs ss (t + 1), fun x hx y hy e => ?_⟩
    · rw [a0 _ hx, a1 _ hy] at e; simp at e
    · have h2 := (partsA_in _ _ _ y hy).1
      have h3 : x.token = t := by
        rcases List.mem_append.1 hx with hx | hx
        · rw [a0 _ hx]
        · rw [a1 _ hx]
      rw [e] at h3; omega
theorem nodup_idx {α : Type} {l : List α} (hn : l.Nodup) {i j : Nat} (hi : i < l.length) (hj : j < l.length) (h : l[i] = l[j]) : i = j := by
  have hp := List.pairwise_iff_getElem.1 hn
  rcases Nat.lt_trichotomy i j with c | c | c
  · exact absurd h (hp i j hi hj c)
  · exact c
  · exact absurd h.symm (hp j i hj hi c)
theorem pts_nodup (m : Mod) (ts : List (List Int)) (n : Nat) : (ptsN m ts n).Nodup := partsA_nodup _ _ _
theorem pts_idx {n i j : Nat} (hi : i < (ptsN m ts n).length) (hj : j < (ptsN m ts n).length) (h : (ptsN m ts n)[i] = (ptsN m ts n)[j]) : i = j := nodup_idx (pts_nodup m ts n) hi hj h
theorem hit_idx {n i : Nat} {a : Msg} (hi : i < (ptsN m ts n).length) (hk : Kin m ts a n (ptsN m ts n)[i]) : fidx (hitP a) (ptsN m ts n) = i := by
  obtain ⟨-, -, k3, k4, k5, -⟩ := hk
  refine fidx_at _ _ i hi (fun j hj => ?_) (by simp [hitP, k3, k4, k5])
  rw [Bool.eq_false_iff]
  intro hh
  simp only [hitP, Bool.and_eq_true, decide_eq_true_eq] at hh
  have hj2 : j < (ptsN m ts n).length := by omega
  have := pts_uniq (List.getElem_mem hj2) (List.getElem_mem hi) (by rw [hh.1.1, k3]) (by rw [hh.1.2, k4])
  have := pts_idx hj2 hi this
  omega
theorem put_inj {a b : Msg} (ha : wrightM a = true) (hb : wrightM b = true) (h : putB a = putB b) : a = b := by
  have h1 := take_put ha
  rw [h, take_put hb] at h1
  exact (Prod.mk.inj h1).1.symm
theorem kin_part {a : Msg} {n n' : Nat} {p p' : Pt} (h : Kin m ts a n p) (h' : Kin m ts a n' p') (hp : p ∈ ptsN m ts n) (hp' : p' ∈ ptsN m ts n') : n = n' ∧ p = p' := by
  obtain ⟨-, a2, a3, a4, -⟩ := h
  obtain ⟨-, b2, b3, b4, -⟩ := h'
  have e : n = n' := by omega
  subst e
  exact ⟨rfl, pts_uniq hp hp' (by omega) (by omega)⟩
def Cur (m : Mod) (ts : List (List Int)) (n : Nat) (pe : Int) (ph : List (List Int)) (p : Pt) (s : List UInt8) : Prop := ∃ a, s = putB a ∧ wrightM a = true ∧ Kin m ts a n p ∧ (a.kind = 2 ∨ (a.kind = 1 ∧ a.epoch = pe ∧ holds ph p.expert a.to = true))
def Pend (m : Mod) (ts : List (List Int)) (F : Flt) : Prop := ∀ (i : Nat) (hi : i < (ptsN m ts F.at_).length), F.answd.getD i true = false → ∃ s ∈ F.bag, Cur m ts F.at_ F.pe F.ph (ptsN m ts F.at_)[i] s
theorem ask_fits {F : Flt} (hS : Setup m ts n0) (h : Inv0 m ts n0 F) {a : Msg} {n : Nat} {p : Pt} (hw : wrightM a = true) (hn : n < m.lays.length) (hp : p ∈ ptsN m ts n) (hk : Kin m ts a n p) (h1 : a.kind = 1) : fitsP F.m F.pe F.ph a.to a = true := by
  obtain ⟨k1, k2, k3, k4, k5, k6⟩ := hk
  have hv : a.vec = (tokN m ts n).getD p.token.toNat [] := by
    rcases k6 with ⟨-, -, -, k⟩ | ⟨k, -⟩ | ⟨k, -⟩
    · exact k
    · omega
    · omega
  have hvv := hS.vec hn hp
  obtain ⟨-, -, p3, p4⟩ := hS.pts hn hp
  have hmr : modRight m = true := by
    simp only [modRight, Bool.and_eq_true, decide_eq_true_eq, List.all_eq_true]
    exact ⟨⟨⟨hS.dim, hS.nl.1⟩, hS.nl.2⟩, hS.lays⟩
  have htr : tokRight m [a.vec] = true := by
    simp only [tokRight, List.length_cons, List.length_nil, List.all_cons, List.all_nil, Bool.and_eq_true, decide_eq_true_eq]
    rw [hv]
    exact ⟨⟨by omega, by omega⟩, hvv, trivial⟩
  unfold fitsP
  rw [h.mo, hmr, h.right.1, hw, htr, h1, decide_eq_true (show a.to = a.to from rfl), decide_eq_true (show a.layer < m.lays.length by omega), decide_eq_true (show a.expert < (layAt m a.layer).exps.length by rw [k2, k5]; exact p4)]
  rfl
theorem answer_right {F : Flt} (hS : Setup m ts n0) (h : Inv0 m ts n0 F) {a : Msg} {n : Nat} {p : Pt} (hw : wrightM a = true) (hn : n < m.lays.length) (hp : p ∈ ptsN m ts n) (ht : 0 ≤ a.to ∧ a.to ≤ 4) : wrightM (answerOf F.pe a.to a (ansN m ts n p)) = true := by
  have hv := hS.ans hn hp
  have hd := hS.dim
  have he := right_e h.right.1
  simp only [wrightM, nums, okN, List.all_cons, List.all_nil, Bool.and_eq_true, decide_eq_true_eq] at hw
  obtain ⟨⟨⟨⟨⟨w0, w1, w2, w3, w4, w5, w6, w7, w8, w9, -⟩, -⟩, -⟩, -⟩, -⟩ := hw
  have e1 : (nums (answerOf F.pe a.to a (ansN m ts n p))).all okN = true := by
    simp only [nums, answerOf, okN, List.all_cons, List.all_nil, Bool.and_eq_true, decide_eq_true_eq]
    refine ⟨?_, ?_, ?_, ?_, ?_, ?_, ?_, ?_, ?_, ?_, trivial⟩ <;> omega
  have e2 : (answerOf F.pe a.to a (ansN m ts n p)).vec = ansN m ts n p := rfl
  have e3 : (answerOf F.pe a.to a (ansN m ts n p)).kind = 2 := rfl
  unfold wrightM
  rw [e1, e2, e3, okS_held hv.2, decide_eq_true (show (ansN m ts n p).length ≤ 8 by omega)]
  rfl
theorem node_answers {F : Flt} (hS : Setup m ts n0) (h : Inv0 m ts n0 F) {a : Msg} {n : Nat} {p : Pt} (hw : wrightM a = true) (hn : n < m.lays.length) (hp : p ∈ ptsN m ts n) (hk : Kin m ts a n p) (h1 : a.kind = 1) (he : a.epoch = F.pe) (hh : holds F.ph p.expert a.to = true) : nodeP F a = (workL F.m (ledAt F a.to) a, answerOf F.pe a.to a (ansN m ts n p), true) := by
  have hf := ask_fits hS h hw hn hp hk h1
  have hto : 1 ≤ a.to ∧ a.to ≤ 4 := by
    obtain ⟨-, -, -, -, -, k6⟩ := hk
    rcases k6 with ⟨-, f, t, -⟩ | ⟨k, -⟩ | ⟨k, -⟩
    · exact t
    · omega
    · omega
  have hx : a.expert = p.expert := hk.2.2.2.2.1
  unfold nodeP workP
  rw [if_neg (by rw [hf]; simp), if_neg (by rw [hx, hh, he]; simp), workV_is h hp hk h1 (h.led _ (led_at h hto)).1]
theorem mem_sendB {b : List (List UInt8)} {a : Msg} {s : List UInt8} (h : s ∈ b) : s ∈ sendB b a := by
  rcases sendB_is (b := b) (a := a) with e | ⟨-, -, e⟩
  · rw [e]; exact h
  · rw [e]; exact List.mem_append_left _ h
theorem new_sendB {b : List (List UInt8)} {a : Msg} (h : wrightM a = true) (hb : b.length < 200) : putB a ∈ sendB b a := by
  unfold sendB bagPut
  rw [if_pos h, if_pos hb]
  simp
theorem comeP_cases (F : Flt) : comeP F = F ∨ (F.at_ < F.m.lays.length ∧ ¬ false ∈ F.answd) := by
  by_cases c : F.at_ < F.m.lays.length ∧ ¬ false ∈ F.answd
  · exact .inr c
  · left
    unfold comeP
    cases hk : F.m.lays.length - F.at_ with
    | zero => rfl
    | succ k => unfold comeN; rw [if_neg c]
theorem come_on {F : Flt} (hS : Setup m ts n0) (h : Inv0 m ts n0 F) (c1 : F.at_ < m.lays.length) (c2 : ¬ false ∈ F.answd) : F.at_ < (comeP F).at_ := by
  obtain ⟨s1, s2, s3⟩ := inv_step hS h c1 c2
  unfold comeP
  rw [h.mo]
  obtain ⟨k, hk⟩ : ∃ k, m.lays.length - F.at_ = k + 1 := ⟨m.lays.length - F.at_ - 1, by omega⟩
  rw [hk]
  unfold comeN
  rw [if_pos ⟨by rw [h.mo]; exact c1, c2⟩]
  have := (inv_come (F := F) hS k s1 (by omega)).2.2
  omega
theorem delv_cons {F : Flt} {s : List UInt8} {b : List (List UInt8)} (hb : F.bag = s :: b) : delvP F 0 = (gotP { F with bag := b } s, 0) := by
  have e : bagTake F.bag 0 = (s, b, true) := by rw [hb]; simp [bagTake]
  unfold delvP
  rw [e]
  rfl
theorem delv_nil {F : Flt} (hb : F.bag = []) : delvP F 0 = (F, 4) := by
  have e : (bagTake F.bag 0).2.2 = false := by rw [hb]; simp [bagTake]
  unfold delvP
  rw [e]
  rfl
theorem pend_step {F : Flt} (hS : Setup m ts n0) (h : Inv0 m ts n0 F) (hs : Settled m F) (hc : F.at_ < m.lays.length) (hP : Pend m ts F) {s : List UInt8} {b : List (List UInt8)} (hb : F.bag = s :: b) : F.at_ < (delvP F 0).1.at_ ∨ ((delvP F 0).1.at_ = F.at_ ∧ Pend m ts (delvP F 0).1) := by
  rw [delv_cons hb]
  have hfull := h.full
  rw [hb] at hfull
  simp only [List.length_cons] at hfull
  have h' : Inv0 m ts n0 { F with bag := b } := h.bagged (fun x hx => h.bag x (by rw [hb]; exact List.mem_cons_of_mem _ hx)) (by omega)
  obtain ⟨a, n, p, rfl, hw, hn, hp, hk⟩ := h.bag s (by rw [hb]; exact List.mem_cons_self)
  have hparts := h.parts hc
  obtain ⟨l1, l2⟩ := h.lens hc
  rw [hparts] at l1 l2
  simp only [gotP, take_put hw, ne_eq, not_true_eq_false, if_false]
  by_cases h0 : a.to = 0
  · rw [if_pos h0]
    have hk1 : a.kind ≠ 1 := by
      intro e
      rcases hk.2.2.2.2.2 with ⟨-, -, t, -⟩ | ⟨k, -⟩ | ⟨k, -⟩ <;> omega
    by_cases hA : goodA { F with bag := b } a ∧ 0 ≤ fidx (hitP a) F.parts ∧ F.answd.getD (fidx (hitP a) F.parts).toNat true = false
    · have eA : answerP { F with bag := b } a = comeP (setP { F with bag := b } (fidx (hitP a) F.parts).toNat a.vec) := by
        unfold answerP; rw [if_pos hA]
      obtain ⟨⟨g1, g2, g3, g4, g5⟩, c2, c3⟩ := hA
      simp only at g3 g5
      obtain rfl : n = F.at_ := by have := hk.2.1; omega
      obtain ⟨i, hi⟩ : ∃ i : Nat, fidx (hitP a) F.parts = i := ⟨(fidx (hitP a) F.parts).toNat, by omega⟩
      have i1 := (fidx_hit _ _ _ hi).1
      rw [hparts] at hi i1
      have hq : p = (ptsN m ts F.at_)[i] := by
        have := (fidx_hit _ _ _ hi).2
        simp only [hitP, Bool.and_eq_true, decide_eq_true_eq] at this
        exact pts_uniq hp (List.getElem_mem _) (by rw [← hk.2.2.1]; exact this.1.1.symm) (by rw [← hk.2.2.2.1]; exact this.1.2.symm)
      have eI := (inv_got hS h' hs (s := putB a) ⟨a, F.at_, p, rfl, hw, hn, hp, hk⟩)
      have e1 : (fidx (hitP a) F.parts).toNat = i := by rw [hparts, hi]; rfl
      rw [eA, e1]
      have hI : Inv0 m ts n0 (setP { F with bag := b } i a.vec) := by
        have := inv_set hS h' hn hp hk ⟨⟨g1, g2, g3, g4, g5⟩, c2, c3⟩
        rw [← e1]; exact this
      rcases comeP_cases (setP { F with bag := b } i a.vec) with e | ⟨q1, q2⟩
      · right
        rw [e]
        refine ⟨rfl, fun j hj hjd => ?_⟩
        simp only [setP] at hj hjd ⊢
        have hij : i ≠ j := by
          rintro rfl
          rw [List.getD_eq_getElem?_getD, List.getElem?_set_self (by omega)] at hjd
          simp at hjd
        rw [List.getD_eq_getElem?_getD, List.getElem?_set_ne hij, ← List.getD_eq_getElem?_getD] at hjd
        obtain ⟨s', hs', a', e', w', k', c'⟩ := hP j hj hjd
        rw [hb] at hs'
        rcases List.mem_cons.1 hs' with rfl | hs'
        · exfalso
          have := put_inj hw w' e'
          subst this
          have := (kin_part hk k' hp (List.getElem_mem _)).2
          rw [hq] at this
          exact hij (pts_idx i1 hj this)
        · exact ⟨s', hs', a', e', w', k', c'⟩
      · left
        exact come_on hS hI hc q2
    · have eA : answerP { F with bag := b } a = { F with bag := b } := by
        unfold answerP; rw [if_neg hA]
      rw [eA]
      right
      refine ⟨rfl, fun j hj hjd => ?_⟩
      simp only at hj hjd
      obtain ⟨s', hs', a', e', w', k', c'⟩ := hP j hj hjd
      rw [hb] at hs'
      rcases List.mem_cons.1 hs' with rfl | hs'
      · exfalso
        have := put_inj hw w' e'
        subst this
        have hk2 : a.kind = 2 := by
          rcases c' with c' | ⟨c', -⟩
          · exact c'
          · exact absurd c' hk1
        refine hA ⟨⟨hk2, k'.1, k'.2.1, ?_, by simp only [h.mo]; exact hc⟩, ?_, ?_⟩
        · have hv : a.vec = ansN m ts F.at_ (ptsN m ts F.at_)[j] := by
            rcases k'.2.2.2.2.2 with ⟨k, -⟩ | ⟨-, -, k⟩ | ⟨k, -⟩
            · omega
            · exact k
            · omega
          rw [hv, h.mo]
          exact (hS.ans hc (List.getElem_mem hj)).1
        · rw [hparts, hit_idx hj k']; omega
        · rw [hparts, hit_idx hj k', Int.toNat_natCast]; exact hjd
      · exact ⟨s', hs', a', e', w', k', c'⟩
  · rw [if_neg h0]
    have hk1 : a.kind = 1 ∧ a.to ≤ 4 ∧ 0 ≤ a.to := by
      rcases hk.2.2.2.2.2 with ⟨k, f, t, -⟩ | ⟨-, k, -⟩ | ⟨-, k⟩
      · exact ⟨k, t.2, by omega⟩
      · exact absurd k h0
      · exact absurd k h0
    rw [if_pos hk1.2.1]
    right
    refine ⟨rfl, fun j hj hjd => ?_⟩
    have ebag : (workF { F with bag := b } a).bag = if (nodeP { F with bag := b } a).2.2 then sendB b (nodeP { F with bag := b } a).2.1 else b := rfl
    change j < (ptsN m ts F.at_).length at hj
    change F.answd.getD j true = false at hjd
    show ∃ s ∈ (workF { F with bag := b } a).bag, Cur m ts F.at_ F.pe F.ph (ptsN m ts F.at_)[j] s
    obtain ⟨s', hs', a', e', w', k', c'⟩ := hP j hj hjd
    rw [hb] at hs'
    rcases List.mem_cons.1 hs' with rfl | hs'
    · have := put_inj hw w' e'
      subst this
      rcases c' with c' | ⟨c1, c2, c3⟩
      · omega
      · have hN := node_answers hS h' hw hc (List.getElem_mem hj) k' c1 c2 c3
        rw [hN] at ebag
        simp only [if_true] at ebag
        rw [ebag]
        have hr := answer_right hS h' hw hc (List.getElem_mem hj) ⟨hk1.2.2, hk1.2.1⟩
        refine ⟨_, new_sendB hr (by omega), _, rfl, hr, ⟨k'.1, k'.2.1, k'.2.2.1, k'.2.2.2.1, k'.2.2.2.2.1, .inr (.inl ⟨rfl, ?_, rfl⟩)⟩, .inl rfl⟩
        rcases k'.2.2.2.2.2 with ⟨-, f, -⟩ | ⟨k, -⟩ | ⟨k, -⟩
        · exact f
        · omega
        · omega
    · refine ⟨s', ?_, a', e', w', k', c'⟩
      rw [ebag]
      split
      · exact mem_sendB hs'
      · exact hs'
end
end Go.Proofs.YtlfjlpleodlkmaaGreatDoor.Pv
