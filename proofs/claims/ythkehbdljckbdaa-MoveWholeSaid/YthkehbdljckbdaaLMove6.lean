/- MoveWhole, reckoned. -/
import Derived.Test.YthkehbdljckbdaaLMove5
set_option linter.unusedVariables false
set_option linter.unusedSimpArgs false
set_option maxRecDepth 100000
namespace Go.Proofs.Ythkehbdljckbdaa.Pv
open Go Go.Pev

def bl16 (l : List Nat) : T := .l (l.map fun n : Nat => [.i .u16 (n : Int)])
def whH (s : List UInt8) (l : List (List UInt8)) (there has : List Bool) : HP := [(⟨47, 4, 2⟩, .row 4 1 (there.map fun b => [.b b]) false), (⟨7, 2, 11⟩, .box 48 (mcs (mid 0 1 3 (crcI s) l has)))]

theorem set_same {has : List Bool} {i : Nat} (hi : i < has.length) (ht : has[i] = true) : has.set i true = has := by
  apply List.ext_getElem
  · simp
  · intro j h1 h2
    rw [List.getElem_set]
    split
    · rename_i e; subst e; exact ht.symm
    · rfl
theorem mid_p {s : List UInt8} {l : List (List UInt8)} (hfl : l.flatten = s) (has : List Bool) : (mid 0 1 3 (crcI s) l has).p = if 0 < has.count false then 1 else 2 := by
  simp only [mid, miss_con, hfl]
  by_cases h : 0 < has.count false
  · simp [h]
  · simp [h]

set_option maxHeartbeats 8000000 in
theorem whole_step (s : List UInt8) (ord : List Nat) (ho : ∀ n ∈ ord, n ≤ 65535) (l : List (List UInt8)) (hfl : l.flatten = s) (hn : l.length ≤ 300) (hsh : ∀ y ∈ l, y.length ≤ 64) (has : List Bool) (hh : has.length = l.length) (i : Nat) (hi : i < ord.length) (h300 : i < 300) (hc : 0 < has.count false) (ck : Nat) :
    ∃ has' ck', has'.length = l.length ∧ evL cfg f11l0 ⟨[(0, .t (.s s)), (2, .t (bl16 ord)), (7, .pt ⟨7, 2, 11⟩ 7 0 0), (8, .t (sl l)), (10, .ow ⟨47, 4, 2⟩ 1 0 l.length), (11, iv (has.count false)), (12, iv i)], whH s l has has, ck⟩ =
      some (.normal, ⟨[(0, .t (.s s)), (2, .t (bl16 ord)), (7, .pt ⟨7, 2, 11⟩ 7 0 0), (8, .t (sl l)), (10, .ow ⟨47, 4, 2⟩ 1 0 l.length), (11, iv (has'.count false)), (12, iv ((i + 1 : Nat) : Int))], whH s l has' has', ck'⟩) := by
  have hw : IntKind.i64.wrap ((i : Int) + 1) = (i : Int) + 1 := wrap_id (by omega) (by omega)
  have hnp : 0 < l.length := by
    rcases Nat.eq_zero_or_pos l.length with h | h
    · rw [List.eq_nil_of_length_eq_zero (by omega : has.length = 0)] at hc; simp at hc
    · exact h
  have hb := ho _ (List.getElem_mem hi)
  have hoi : ord[i]? = some ord[i] := List.getElem?_eq_getElem hi
  obtain ⟨a, hat⟩ : ∃ a : Nat, a = ord[i] % l.length := ⟨_, rfl⟩
  have hal : a < l.length := by rw [hat]; exact Nat.mod_lt _ hnp
  have hah : a < has.length := by omega
  have p1 : ((ord[i] : Nat) : Int).tmod (l.length : Int) = (a : Int) := by rw [hat, Int.tmod_eq_emod_of_nonneg (by omega)]; rfl
  have p2 : IntKind.i64.wrap ((ord[i] : Nat) : Int) = ((ord[i] : Nat) : Int) := wrap_id (by omega) (by omega)
  have hl0 : ((l.length : Int) == 0) = false := by simp; exact fun e => by rw [e] at hnp; simp at hnp
  have hl1 : ¬ l = [] := fun e => by rw [e] at hnp; simp at hnp
  have h300' : (i : Int) < 300 := by omega
  have hcon : has.contains false = true := by rw [miss_con]; exact decide_eq_true hc
  have hle : has.count false ≤ has.length := List.count_le_length
  have hpr := fun hp => callQ_tr (C := cfg) (piece_ret (mid 0 1 3 (crcI s) l has) a l[a] (by simp only [mid]; omega) (by simp only [mid]; rw [gots_len hh]; omega) (fun y hy => by have := gots_short hsh y hy; omega) (by have := hsh _ (List.getElem_mem hal); omega)) rfl hp
  have hm1 := mid_p hfl has
  rw [if_pos hc] at hm1
  by_cases ht : has[a] = true
  · rw [piece_old hh hal ht hcon] at hpr
    refine ⟨has, ck + 9, hh, ?_⟩
    have hss : (has.map fun b => ([.b b] : List T)).set a [.b true] = has.map fun b => [.b b] := by
      rw [← List.map_set (f := fun b => ([.b b] : List T)), set_same hah ht]
    have hcp : ((has.count false : Int) == 0) = false := by simp; omega
    have hcp0 : ¬ has.count false = 0 := by omega
    simp only [whH]
    generalize mid 0 1 3 (crcI s) l has = m1 at *
    generalize hcnt : has.count false = cn at *
    simp only [pieV, mvV, mcs, bl, sl, iv, bv, hm1] at hpr ⊢
    simp [f11l0e, bl16, sl, hi, hw, h300', hc, hoi, p1, p2, hl0, hl1, hal, hah, hpr, ht, hss, over, treesC, treesOf, treeOf, keysOf, freezeAll, hcp, hcp0]
  · have ht : has[a] = false := by simpa using ht
    rw [piece_new hh hal ht] at hpr
    have her : (if (has.set a true).contains false = true then (0 : Int) else if crcI l.flatten = crcI s then 0 else 9) = 0 := by
      rw [hfl]; split
      · rfl
      · exact if_pos rfl
    rw [her] at hpr
    have hms := miss_set hah ht
    have hm2 := mid_p hfl (has.set a true)
    refine ⟨has.set a true, ck + 10, by simpa using hh, ?_⟩
    have hss : (has.map fun b => ([.b b] : List T)).set a [.b true] = (has.set a true).map fun b => [.b b] := by
      rw [← List.map_set (f := fun b => ([.b b] : List T))]
    simp only [whH]
    generalize mid 0 1 3 (crcI s) l has = m1 at *
    generalize mid 0 1 3 (crcI s) l (has.set a true) = m2 at *
    generalize hcn' : (has.set a true).count false = cn' at *
    generalize hcnt : has.count false = cn at *
    have hwc : IntKind.i64.wrap ((cn : Int) - 1) = (cn' : Int) := by rw [wrap_id (by omega) (by omega)]; omega
    by_cases h0 : 0 < cn'
    · rw [if_pos h0] at hm2
      have hcp0 : ¬ cn' = 0 := by omega
      have hcp : ((cn' : Int) == 0) = false := by simp; omega
      simp only [pieV, mvV, mcs, bl, sl, iv, bv, hm1, hm2] at hpr ⊢
      simp [f11l0e, bl16, sl, hi, hw, h300', hc, hoi, p1, p2, hl0, hl1, hal, hah, hpr, ht, List.map_set, over, treesC, treesOf, treeOf, keysOf, freezeAll, hcp, hcp0, hwc]
    · rw [if_neg h0] at hm2
      have hcp0 : cn' = 0 := by omega
      subst hcp0
      simp only [pieV, mvV, mcs, bl, sl, iv, bv, hm1, hm2] at hpr ⊢
      simp [f11l0e, bl16, sl, hi, hw, h300', hc, hoi, p1, p2, hl0, hl1, hal, hah, hpr, ht, List.map_set, over, treesC, treesOf, treeOf, keysOf, freezeAll, hwc]

theorem whole_loop (s : List UInt8) (ord : List Nat) (ho : ∀ n ∈ ord, n ≤ 65535) (l : List (List UInt8)) (hfl : l.flatten = s) (hn : l.length ≤ 300) (hsh : ∀ y ∈ l, y.length ≤ 64) : ∀ (k i : Nat) (has : List Bool) (ck : Nat), i + k = 300 → i ≤ ord.length → has.length = l.length →
    ∃ has' i' ck', has'.length = l.length ∧ evL cfg (.loop f11l0) ⟨[(0, .t (.s s)), (2, .t (bl16 ord)), (7, .pt ⟨7, 2, 11⟩ 7 0 0), (8, .t (sl l)), (10, .ow ⟨47, 4, 2⟩ 1 0 l.length), (11, iv (has.count false)), (12, iv i)], whH s l has has, ck⟩ =
      some (.exit 0, ⟨[(0, .t (.s s)), (2, .t (bl16 ord)), (7, .pt ⟨7, 2, 11⟩ 7 0 0), (8, .t (sl l)), (10, .ow ⟨47, 4, 2⟩ 1 0 l.length), (11, iv (has'.count false)), (12, iv i'), (61, bv false)], whH s l has' has', ck'⟩) := by
  intro k
  induction k with
  | zero =>
    intro i has ck h hio hh
    obtain rfl : i = 300 := by omega
    refine ⟨has, ((300 : Nat) : Int), ck + 1, hh, ?_⟩
    rw [evL_loop]
    generalize has.count false = cn
    by_cases hlt : 300 < ord.length
    · have d1 : decide ((300 : Int) < (ord.length : Int)) = true := decide_eq_true (by omega)
      simp [f11l0e, bl16, d1, whH]
    · have d1 : decide ((300 : Int) < (ord.length : Int)) = false := decide_eq_false (by omega)
      simp [f11l0e, bl16, d1, whH]
  | succ k ih =>
    intro i has ck h hio hh
    by_cases hi : i < ord.length
    · by_cases hc : 0 < has.count false
      · obtain ⟨has1, ck1, hh1, l1⟩ := whole_step s ord ho l hfl hn hsh has hh i hi (by omega) hc ck
        obtain ⟨has', i', ck', hh', l2⟩ := ih (i + 1) has1 ck1 (by omega) (by omega) hh1
        exact ⟨has', i', ck', hh', by rw [evL_loop_n l1, l2]⟩
      · refine ⟨has, (i : Int), ck + 1, hh, ?_⟩
        rw [evL_loop]
        have hc0 : has.count false = 0 := by omega
        rw [hc0]
        have d1 : decide (i < ord.length) = true := decide_eq_true hi
        have d2 : decide ((i : Int) < 300) = true := decide_eq_true (by omega)
        simp [f11l0e, bl16, d1, d2, whH]
    · refine ⟨has, (i : Int), ck + 1, hh, ?_⟩
      rw [evL_loop]
      generalize has.count false = cn
      have d1 : decide (i < ord.length) = false := decide_eq_false hi
      simp [f11l0e, bl16, d1, whH]

theorem whole_rest (s : List UInt8) (l : List (List UInt8)) (hfl : l.flatten = s) (hn : l.length ≤ 300) (hsh : ∀ y ∈ l, y.length ≤ 64) (has : List Bool) (hh : has.length = l.length) : ∀ (fu j ck : Nat), j + fu = l.length →
    ∃ ck', evL cfg (.loop f11l1) ⟨[(0, .t (.s s)), (7, .pt ⟨7, 2, 11⟩ 7 0 0), (8, .t (sl l)), (10, .ow ⟨47, 4, 2⟩ 1 0 l.length), (115, iv l.length), (116, iv j)], whH s l has (fill has j), ck⟩ =
      some (.exit 2, ⟨[(0, .t (.s s)), (7, .pt ⟨7, 2, 11⟩ 7 0 0), (8, .t (sl l)), (10, .ow ⟨47, 4, 2⟩ 1 0 l.length), (115, iv l.length), (116, iv l.length), (117, bv false)], whH s l has (fill has l.length), ck'⟩) := by
  intro fu
  induction fu with
  | zero =>
    intro j ck h
    obtain rfl : j = l.length := by omega
    refine ⟨ck + 1, ?_⟩
    rw [evL_loop]
    simp [f11l1e, whH]
  | succ fu ih =>
    intro j ck h
    have hj : j < l.length := by omega
    have hjh : j < has.length := by omega
    have hw : IntKind.i64.wrap ((j : Int) + 1) = (j : Int) + 1 := wrap_id (by omega) (by omega)
    have hz : (fill has j).length = l.length := by rw [fill_len (by omega), hh]
    by_cases ht : has[j] = true
    · obtain ⟨ck', hc⟩ := ih (j + 1) (ck + 4) (by omega)
      refine ⟨ck', ?_⟩
      rw [← hc, evL_loop_n]
      rw [fill_next hjh ht]
      simp [f11l1e, whH, hj, hjh, hw, ht]
    · have ht : has[j] = false := by simpa using ht
      obtain ⟨ck', hc⟩ := ih (j + 1) (ck + 5) (by omega)
      refine ⟨ck', ?_⟩
      have hpr := fun hp => callQ_tr (C := cfg) (piece_ret (mid 0 1 3 (crcI s) l (fill has j)) j l[j] (by simp only [mid]; omega) (by simp only [mid]; rw [gots_len hz]; omega) (fun y hy => by have := gots_short hsh y hy; omega) (by have := hsh _ (List.getElem_mem hj); omega)) rfl hp
      rw [piece_new hz hj (by rw [fill_get hjh]; exact ht), fill_set hjh] at hpr
      rw [← hc, evL_loop_n]
      have hlj : l[j]? = some l[j] := List.getElem?_eq_getElem hj
      generalize (if (fill has (j + 1)).contains false = true then (0 : Int) else if crcI l.flatten = crcI s then 0 else 9) = er at *
      simp only [whH]
      generalize mid 0 1 3 (crcI s) l (fill has j) = m1 at *
      generalize mid 0 1 3 (crcI s) l (fill has (j + 1)) = m2 at *
      simp only [pieV, mvV, mcs, bl, sl, iv, bv] at hpr ⊢
      simp [f11l1e, hj, hjh, hw, ht, hpr, over]

set_option maxHeartbeats 8000000 in
theorem mwhole (s : List UInt8) (b : Nat) (ord : List Nat) (hb : b ≤ 255) (ho : ∀ n ∈ ord, n ≤ 65535) : ∃ hp c, runL cfg 11 [.t (.s s), .t (.i .u8 b), .t (bl16 ord)] [] 0 = some (bv true, hp, c) := by
  have ha := fun s k => callEv_tr (C := cfg) awake22_ret rfl rfl rfl s k
  have h0 := fun s k => callEv_tr (C := cfg) plain22_ret rfl rfl rfl s k
  simp only [mapV, gl, il, iv, bv, List.map_cons, List.map_nil] at ha h0
  obtain ⟨m, k, t1, t2, t3, hk⟩ := size_of b hb
  rw [runL_pf (fn := f11) rfl rfl]
  by_cases h1 : s = []
  · subst h1
    simp [ha]
  have d1 : (s == []) = false := by simpa using h1
  by_cases h2 : s.length ≤ 300
  case neg =>
    have d2 : decide ((300 : Int) < (s.length : Int)) = true := decide_eq_true (by omega)
    simp [ha, d1, d2]
  have d2 : decide ((300 : Int) < (s.length : Int)) = false := decide_eq_false (by omega)
  have hbg := fun st k' => callEv_tr (C := cfg) (begin_ret 0 [[1]] 0 1 3 s k (by decide) (by decide) (by omega)) rfl rfl rfl st k'
  rw [begin_mid (by decide) (by decide) (by decide) (by decide) h1 hk] at hbg
  have hn := cut_le hk.1 s
  have hnp : 0 < (cut k s).length := by rw [cut_cons hk.1 h1]; simp
  have hfl := cut_flatten hk.1 s
  have hsh := cut_short hk s
  generalize cut k s = l at *
  obtain ⟨has, i', c1, hh, l1⟩ := whole_loop s ord ho l hfl (by omega) hsh 300 0 (List.replicate l.length false) 7 (by omega) (by omega) (by simp)
  obtain ⟨c2, l2⟩ := whole_rest s l hfl (by omega) hsh has hh l.length 0 (c1 + 1) (by omega)
  rw [fill_zero] at l2
  rw [show (List.replicate l.length false).count false = l.length by simp] at l1
  have hc0 := fill_all has
  rw [hh] at hc0
  have hz : (fill has l.length).length = l.length := by rw [fill_len (by omega), hh]
  have hM : mid 0 1 3 (crcI s) l (fill has l.length) = ⟨0, 1, 3, 2, crcI s, fill has l.length, l⟩ := by
    simp only [mid, hc0, gots_all hz hc0, hfl]; simp
  have htx := fun st kk => callEv_tr (C := cfg) (text_ret ⟨0, 1, 3, 2, crcI s, fill has l.length, l⟩ (by simp only; omega) (by simp only; rw [hfl]; omega)) rfl rfl rfl st kk
  simp only [textP, hfl] at htx
  have hb1 : (l.length : Int) ≤ 140737488355328 := by omega
  have hb2 : l.length ≤ 140737488355328 := by omega
  have hl1 : ¬ l = [] := fun e => by rw [e] at hnp; simp at hnp
  have hl0 : ((l.length : Int) == 0) = false := by simp; exact hl1
  simp only [whH, hM, rep_b] at l1 l2
  generalize mid 0 1 3 (crcI s) l (List.replicate l.length false) = m1 at *
  generalize mid 0 1 3 (crcI s) l has = m2 at *
  generalize has.count false = cn at *
  simp only [begV, mcs, mvV, mapV, gl, bl, sl, iv, bv, List.map_cons, List.map_nil, Int.natCast_zero] at hbg htx l1 l2
  simp at htx
  simp [ha, h0, d1, d2, t1, t2, t3, hbg, hl1, hl0, hb1, hb2, l1, l2, htx, over]

theorem moveWhole_ev (xs : List V) (h : ArgsFit PP 8 [9, 5, 67] xs) : ∃ hp c, runL cfg 11 xs [] 0 = some (bv true, hp, c) := by
  obtain ⟨x1, r, rfl, h1, h⟩ := argsFit_cons h
  obtain ⟨x2, r, rfl, h2, h⟩ := argsFit_cons h
  obtain ⟨x3, r, rfl, h3, h⟩ := argsFit_cons h
  cases argsFit_nil h
  obtain ⟨s, rfl, _⟩ := a_str h1
  obtain ⟨b, rfl, hb⟩ := a_u8 h2
  have hu : PP.underlying 67 = some (.slice 69) := by kernel_rfl
  obtain ⟨l, rfl, _, hw⟩ := argFit_slice (mk := fun n : Nat => [.i .u16 (n : Int)]) (Q := fun n => n ≤ 65535) hu (fun c h => by
    obtain ⟨m, rfl, hw⟩ := fits_int u_u16 h
    simp only [Lit.wf, Bool.and_eq_true, decide_eq_true_eq] at hw
    have h1 : IntKind.u16.min = 0 := by decide
    have h2 : IntKind.u16.max = 65535 := by decide
    exact ⟨m.toNat, by rw [Int.toNat_of_nonneg (by omega)], by omega⟩) h3
  exact mwhole s b l hb hw
end Go.Proofs.Ythkehbdljckbdaa.Pv
