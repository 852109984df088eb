/- What slices.IndexFunc and slices.DeleteFunc tell, of place.Retire's closure. -/
import Derived.Test.YthkehbdljckbdaaSPlace
set_option linter.unusedVariables false
set_option linter.unusedSimpArgs false
namespace Go.Proofs.Ythkehbdljckbdaa.Pv
open Go Go.Pev

theorem filt_true {α : Type} (l : List α) : List.filter (fun _ => true) l = l := List.filter_eq_self.2 fun _ _ => rfl

/-- The closure, of read-only cells, or of a variable. -/
theorem ret1_pr (x n : Int) (s : St) (k : Key) : callEv cfg (runL cfg) 47 [.t (.i .i64 x), .pr [.i .i64 n]] s k = some (.t (.b (x == n)), s.hp, s.ck + 4) := by
  refine callEv_h (C := cfg) (c' := s.ck + 3) rfl ?_ k
  rw [runL_pf (fn := f47) rfl rfl]
  simp [filt_true]
theorem ret1_pt (x n : Int) (q : Key) (bt : Nat) (s : St) (k : Key) (hq : s.hp.get q = some (.box bt [.t (.i .i64 n)])) : callEv cfg (runL cfg) 47 [.t (.i .i64 x), .pt q 1 0 0] s k = some (.t (.b (x == n)), s.hp, s.ck + 4) := by
  refine callEv_h (C := cfg) (c' := s.ck + 3) rfl ?_ k
  rw [runL_pf (fn := f47) rfl rfl]
  simp [hq, filt_true]

def idx (l : List Int) (n : Int) : Int := if l.contains n then l.idxOf n else -1

theorem ixf_loop (l : List Int) (n : Int) (hl : l.length ≤ 1000000) : ∀ (k i ck : Nat), i + k = l.length → (∀ j, j < i → l[j]? ≠ some n) → ∃ c, evL cfg (.loop f60l0) ⟨[(0, .t (il l)), (1, .fn 47 [.pr [.i .i64 n]]), (7, iv l.length), (8, iv i)], [], ck⟩ =
    some (if (l.drop i).contains n then (.ret, ⟨[(4, iv (idx l n))], [], c⟩) else (.exit 0, ⟨[(0, .t (il l)), (1, .fn 47 [.pr [.i .i64 n]]), (7, iv l.length), (8, iv l.length), (9, bv false)], [], c⟩)) := by
  intro k
  induction k with
  | zero =>
    intro i ck h _
    obtain rfl : i = l.length := by omega
    refine ⟨ck + 1, ?_⟩
    rw [evL_loop]
    simp [f60l0e]
  | succ k ih =>
    intro i ck h hb
    have hi : i < l.length := by omega
    by_cases hx : l[i] = n
    · have hid : l.idxOf n = i := by
        have h1 : l.idxOf n < l.length := List.idxOf_lt_length_of_mem (by rw [← hx]; exact List.getElem_mem hi)
        have h2 : l[l.idxOf n] = n := List.getElem_idxOf h1
        have h3 : ¬ l.idxOf n < i := fun h => hb _ h (by rw [List.getElem?_eq_getElem h1, h2])
        have h4 : ¬ i < l.idxOf n := fun h => by
          have := List.not_of_lt_findIdx (p := (· == n)) (xs := l) (i := i) (by simpa [List.idxOf] using h)
          simp [hx] at this
        omega
      have hin : l.contains n = true := by simp; rw [← hx]; exact List.getElem_mem hi
      refine ⟨ck + 7 + 1, ?_⟩
      rw [evL_loop, contains_at hi hx]
      simp only [idx, hin, hid]
      simp [f60l0e, hi, hx, ret1_pr, filt_true]
    · obtain ⟨c, hc⟩ := ih (i + 1) (ck + 8) (by omega) (fun j hj => by
        rcases Nat.lt_succ_iff_lt_or_eq.1 hj with h | rfl
        · exact hb j h
        · rw [List.getElem?_eq_getElem hi]; simpa using hx)
      refine ⟨c, ?_⟩
      rw [evL_loop_n (s1 := ⟨[(0, .t (il l)), (1, .fn 47 [.pr [.i .i64 n]]), (7, iv l.length), (8, iv ((i + 1 : Nat) : Int))], [], ck + 8⟩), hc, contains_not hi hx]
      have hb : (l[i] == n) = false := by simp [hx]
      have hw : IntKind.i64.wrap ((i : Int) + 1) = (i : Int) + 1 := wrap_id (by omega) (by omega)
      simp [f60l0e, hi, hb, hw, ret1_pr, filt_true]

theorem ixf_ret (l : List Int) (n : Int) (hl : l.length ≤ 1000000) : RetT cfg 60 [.t (il l), .fn 47 [.pr [.i .i64 n]]] (iv (idx l n)) := by
  obtain ⟨c, hc⟩ := ixf_loop l n hl l.length 0 2 (by omega) (by omega)
  refine RetT.of ?_
  rw [runL_pf (fn := f60) rfl rfl]
  simp at hc
  by_cases hx : n ∈ l
  · simp [hx] at hc; simp [hc]
  · have : idx l n = -1 := by simp [idx, hx]
    rw [this]
    simp [hx] at hc; simp [hc]

theorem ixf_call (l : List Int) (n : Int) (hl : l.length ≤ 1000000) (k q : Key) (ty bt : Nat) (s : St) (kk : Key) (hk : s.hp.get k = some (.row ty 1 (cl l) false)) (hq : s.hp.get q = some (.box bt [.t (.i .i64 n)])) : callEv cfg (runL cfg) 60 [.ow k 1 0 l.length, .fn 47 [.pt q 1 0 0]] s kk = some (.t (.i .i64 (idx l n)), s.hp, s.ck) := by
  have h1 : treeOf s.hp (.ow k 1 0 l.length) = some (il l) := treeOf_ow hk (by simp [cl])
  refine callEv_t (C := cfg) rfl rfl (ps := [.t (il l), .fn 47 [.pr [.i .i64 n]]]) ?_ (ixf_ret l n hl) (.inl rfl)
  simp only [puresOf, pureOf, h1]
  simp [capsOf, capOf, hq, treesOf, treeOf]

theorem del_loop (n : Int) (k q : Key) (ty bt : Nat) (rest : HP) (hkq : ¬ k = q) (hq : rest.get q = some (.box bt [.t (.i .i64 n)])) : ∀ (m j w : Nat) (r : List Int) (ck : Nat), j + m = r.length → w ≤ j → r.length ≤ 1000000 → ∃ c r', r'.length = r.length ∧ r'.take (w + ((r.drop j).filter (· != n)).length) = r.take w ++ (r.drop j).filter (· != n) ∧ evL cfg (.loop f46l0) ⟨[(0, .ow k 1 0 r.length), (1, .fn 47 [.pt q 1 0 0]), (5, iv w), (6, iv j)], (k, .row ty 1 (cl r) false) :: rest, ck⟩ =
    some (.exit 0, ⟨[(0, .ow k 1 0 r.length), (1, .fn 47 [.pt q 1 0 0]), (5, iv ((w + ((r.drop j).filter (· != n)).length : Nat) : Int)), (6, iv r.length), (19, bv false)], (k, .row ty 1 (cl r') false) :: rest, c⟩) := by
  intro m
  induction m with
  | zero =>
    intro j w r ck h hw hl
    obtain rfl : j = r.length := by omega
    refine ⟨ck + 1, r, rfl, by simp, ?_⟩
    rw [evL_loop]
    simp [f46l0e]
  | succ m ih =>
    intro j w r ck h hwj hl
    have hj : j < r.length := by omega
    have hw6 : IntKind.i64.wrap ((j : Int) + 1) = (j : Int) + 1 := wrap_id (by omega) (by omega)
    have hw5 : IntKind.i64.wrap ((w : Int) + 1) = (w : Int) + 1 := wrap_id (by omega) (by omega)
    have hd : r.drop j = r[j] :: r.drop (j + 1) := List.drop_eq_getElem_cons hj
    have hwl : w < r.length := by omega
    by_cases hx : r[j] = n
    · have hb : (r[j] == n) = true := by simp [hx]
      have hf : (r.drop j).filter (· != n) = (r.drop (j + 1)).filter (· != n) := by rw [hd]; simp [hx]
      obtain ⟨c, r', h1, h2, h3⟩ := ih (j + 1) w r (ck + 8) (by omega) (by omega) hl
      refine ⟨c, r', h1, by rw [hf]; exact h2, ?_⟩
      rw [hf, ← h3]
      rw [evL_loop_n (s1 := ⟨[(0, .ow k 1 0 r.length), (1, .fn 47 [.pt q 1 0 0]), (5, iv w), (6, iv ((j + 1 : Nat) : Int))], (k, .row ty 1 (cl r) false) :: rest, ck + 8⟩)]
      have hr1 := fun (s : St) (kk : Key) hg => ret1_pt r[j] n q bt s kk hg
      simp [f46l0e, hj, hb, hw6, cl, hr1, hkq, hq, filt_true]
    · have hb : (r[j] == n) = false := by simp [hx]
      have hf : (r.drop j).filter (· != n) = r[j] :: (r.drop (j + 1)).filter (· != n) := by rw [hd]; exact List.filter_cons_of_pos (by simpa using hx)
      obtain ⟨c, r', h1, h2, h3⟩ := ih (j + 1) (w + 1) (r.set w r[j]) (ck + 10) (by simp; omega) (by omega) (by simpa using hl)
      have hdr : (r.set w r[j]).drop (j + 1) = r.drop (j + 1) := by
        rw [List.drop_set]; simp; omega
      rw [hdr] at h2 h3
      simp only [List.length_set] at h1 h2 h3
      have htk : (r.set w r[j]).take (w + 1) = r.take w ++ [r[j]] := by
        rw [List.take_succ_eq_append_getElem (by simpa using hwl)]
        simp [List.take_set_of_le]
      refine ⟨c, r', h1, ?_, ?_⟩
      · rw [hf, List.length_cons, show w + (((r.drop (j + 1)).filter (· != n)).length + 1) = w + 1 + ((r.drop (j + 1)).filter (· != n)).length by omega, h2, htk]
        simp
      · rw [hf, List.length_cons, show w + (((r.drop (j + 1)).filter (· != n)).length + 1) = w + 1 + ((r.drop (j + 1)).filter (· != n)).length by omega, ← h3]
        rw [evL_loop_n (s1 := ⟨[(0, .ow k 1 0 r.length), (1, .fn 47 [.pt q 1 0 0]), (5, iv ((w + 1 : Nat) : Int)), (6, iv ((j + 1 : Nat) : Int))], (k, .row ty 1 (cl (r.set w r[j])) false) :: rest, ck + 10⟩)]
        have hr1 := fun (s : St) (kk : Key) hg => ret1_pt r[j] n q bt s kk hg
        simp [f46l0e, hj, hb, hw6, hw5, cl, hr1, hkq, hq, filt_true, hwl, treesC, treesOf, treeOf, keysOf, freezeAll, over, List.map_set]

theorem del_split (n : Int) : ∀ l : List Int, n ∈ l → l.take (l.idxOf n) ++ (l.drop (l.idxOf n + 1)).filter (· != n) = l.filter (· != n)
  | [], h => by cases h
  | a :: l, h => by
    by_cases e : a = n
    · subst e; simp
    · have h' : n ∈ l := by
        rcases List.mem_cons.1 h with h | h
        · exact absurd h.symm e
        · exact h
      have := del_split n l h'
      have hi : (a :: l).idxOf n = l.idxOf n + 1 := by
        rw [List.idxOf_cons]
        have : (a == n) = false := by simpa using e
        rw [this]; rfl
      rw [hi, List.take_succ_cons, List.drop_succ_cons, List.cons_append, this, List.filter_cons_of_pos (by simpa using e)]

theorem del_run (l : List Int) (n : Int) (hl : l.length ≤ 1000000) (k q : Key) (ty bt : Nat) (rest : HP) (hkq : ¬ k = q) (hq : rest.get q = some (.box bt [.t (.i .i64 n)])) (hk4 : ¬ k.s = 4) (hf : rest.filter (fun p => !([4] : List Nat).contains p.1.s) = rest) (ck : Nat) : ∃ c, runL cfg 46 [.ow k 1 0 l.length, .fn 47 [.pt q 1 0 0]] ((k, .row ty 1 (cl l) false) :: rest) ck = some (.ow k 1 0 (l.filter (· != n)).length, (k, .row ty 1 (cl (l.filter (· != n))) false) :: rest, c) := by
  have hix := fun (s : St) (kk : Key) h1 h2 => ixf_call l n hl k q ty bt s kk h1 h2
  have hf : List.filter (fun p : Key × Ob => !decide (p.fst.s = 4)) rest = rest := List.filter_eq_self.2 fun a ha => by
    have := List.filter_eq_self.1 hf a ha
    simpa using this
  by_cases hx : n ∈ l
  · have hidx : idx l n = l.idxOf n := by simp [idx, hx]
    have hil : l.idxOf n < l.length := List.idxOf_lt_length_of_mem hx
    have hw : IntKind.i64.wrap ((l.idxOf n : Int) + 1) = (l.idxOf n : Int) + 1 := wrap_id (by omega) (by omega)
    obtain ⟨c, r', h1, h2, h3⟩ := del_loop n k q ty bt rest hkq hq (l.length - (l.idxOf n + 1)) (l.idxOf n + 1) (l.idxOf n) l (ck + 4) (by omega) (by omega) hl
    rw [del_split n l hx] at h2
    have hlen : l.idxOf n + ((l.drop (l.idxOf n + 1)).filter (· != n)).length = (l.filter (· != n)).length := by
      rw [← del_split n l hx, List.length_append, List.length_take, Nat.min_eq_left (by omega)]
    rw [hlen] at h2 h3
    have hn1 : ((l.idxOf n : Int) == -1) = false := by simp
    have hle : (l.filter (· != n)).length ≤ l.length := List.length_filter_le _ _
    have hclr : (cl r').take (l.filter (· != n)).length = cl (l.filter (· != n)) := by
      rw [← h2]; simp [cl]
    have hlr : (cl r').length = l.length := by simp [cl, h1]
    refine ⟨c + 2, ?_⟩
    rw [runL_pf (fn := f46) rfl rfl]
    simp at h3
    simp [hk4, hf, hix, hkq, hq, hidx, filt_true, hn1, hw, h3, clr, hle, hlr, hclr]
  · have hidx : idx l n = -1 := by simp [idx, hx]
    have hfl : l.filter (· != n) = l := List.filter_eq_self.2 fun a ha => by
      have : a ≠ n := fun e => hx (e ▸ ha)
      simpa using this
    refine ⟨ck + 4, ?_⟩
    rw [runL_pf (fn := f46) rfl rfl, hfl]
    simp [hk4, hf, hix, hkq, hq, hidx, filt_true]
end Go.Proofs.Ythkehbdljckbdaa.Pv
