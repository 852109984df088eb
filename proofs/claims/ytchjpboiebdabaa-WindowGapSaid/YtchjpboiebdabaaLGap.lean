/- WindowGap, reckoned. -/
import Derived.Test.YtchjpboiebdabaaLTurn
set_option linter.unusedVariables false
set_option linter.unusedSimpArgs false
namespace Go.Proofs.Ytchjpboiebdabaa.Pv
open Go Go.Pev

def seqI (a : Int) : Nat → List Int
  | 0 => []
  | m + 1 => a :: seqI (a + 1) m
theorem seqI_len (a : Int) (m : Nat) : (seqI a m).length = m := by
  induction m generalizing a with
  | zero => rfl
  | succ m ih => simp [seqI, ih]
theorem mem_seqI {a x : Int} {m : Nat} : x ∈ seqI a m ↔ a ≤ x ∧ x < a + m := by
  induction m generalizing a with
  | zero => simp [seqI] <;> omega
  | succ m ih =>
    simp only [seqI, List.mem_cons, ih]
    omega
theorem seqI_pair (a : Int) (m : Nat) : (seqI a m).Pairwise (· < ·) := by
  induction m generalizing a with
  | zero => exact .nil
  | succ m ih => exact List.pairwise_cons.2 ⟨fun y hy => by have := mem_seqI.1 hy; omega, ih _⟩
theorem seqI_snoc (a : Int) (m : Nat) : seqI a (m + 1) = seqI a m ++ [a + m] := by
  induction m generalizing a with
  | zero => simp [seqI]
  | succ m ih =>
    show a :: seqI (a + 1) (m + 1) = a :: (seqI (a + 1) m ++ [_])
    rw [ih]
    rw [show a + 1 + (m : Int) = a + ((m + 1 : Nat) : Int) by omega]
theorem adv_seq (a : Int) (m : Nat) : adv a (seqI a m) = (a + m, []) := by
  induction m generalizing a with
  | zero => simp [seqI, adv]
  | succ m ih =>
    simp only [seqI, adv, if_true, ih]
    congr 1
    omega
theorem seq_right {g : Int} {m : Nat} (h0 : 0 ≤ g) (hg : g ≤ 1000) (hm : m ≤ 32) : WIs 2000 g (seqI (g + 1) m) :=
  ⟨h0, by omega, seqI_pair _ _, fun x hx => by have := mem_seqI.1 hx; omega, by rw [seqI_len]; exact hm⟩

/-- Where the gap's window stands behind i more. -/
def gapW (g : Int) (i : Nat) : Int × List Int := if i ≤ 32 then (g, seqI (g + 1) i) else (g + 1 + i, [])
theorem gap_is {g : Int} {i : Nat} (h0 : 0 ≤ g) (hg : g ≤ 100) (hi : i ≤ 100) : WIs 2000 (gapW g i).1 (gapW g i).2 := by
  unfold gapW
  split
  · exact seq_right h0 (by omega) (by omega)
  · exact ⟨by simp only; omega, by simp only; omega, .nil, by simp, by simp⟩
theorem gap_next {g : Int} {i : Nat} (h0 : 0 ≤ g) (hg : g ≤ 100) (hi : i ≤ 100) : acc (gapW g i).1 (gapW g i).2 (g + 1 + i) = ((gapW g (i + 1)).1, (gapW g (i + 1)).2, true) := by
  unfold gapW
  by_cases h : i ≤ 32
  · rw [if_pos h]
    simp only
    have hr := (seq_right (m := i) h0 (by omega) h).right (by omega)
    have hn : ¬ g + 1 + (i : Int) ∈ seqI (g + 1) i := fun hm => by have := mem_seqI.1 hm; omega
    have hins : ins (g + 1 + (i : Int)) (seqI (g + 1) i) = seqI (g + 1) (i + 1) := by
      rw [seqI_snoc]
      refine ins_none _ _ ?_
      rw [List.any_eq_false]
      intro x hx
      have := mem_seqI.1 hx
      simp; omega
    unfold acc
    rw [if_pos ⟨hr, by omega, by omega, hn⟩, hins]
    by_cases h31 : i + 1 ≤ 32
    · have hov : over32 g (seqI (g + 1) (i + 1)) = (g, seqI (g + 1) (i + 1)) := by unfold over32; rw [if_neg (by rw [seqI_len]; omega)]
      rw [hov, if_pos h31]
      have hne : ¬ g + 1 = g := by omega
      simp only [seqI, adv, hne, if_false]
    · obtain rfl : i = 32 := by omega
      have hov : over32 g (seqI (g + 1) (32 + 1)) = (g + 1 + 1, seqI (g + 1 + 1) 32) := by unfold over32; rw [if_pos (by rw [seqI_len]; omega)]; rfl
      rw [hov, if_neg h31]
      simp only
      rw [adv_seq]
      simp
      omega
  · rw [if_neg h, if_neg (by omega)]
    simp only
    rw [acc_next (by omega) (by omega)]
    simp
    omega
/-- The one that was left out. -/
theorem gap_last {g : Int} {n : Nat} (h0 : 0 ≤ g) (hg : g ≤ 100) (hn : n ≤ 100) : acc (gapW g n).1 (gapW g n).2 g = if n ≤ 32 then (g + n + 1, [], true) else (g + 1 + n, [], false) := by
  unfold gapW
  by_cases h : n ≤ 32
  · rw [if_pos h, if_pos h]
    simp only
    have hr := (seq_right (m := n) h0 (by omega) h).right (by omega)
    have hnm : ¬ g ∈ seqI (g + 1) n := fun hm => by have := mem_seqI.1 hm; omega
    have hins : ins g (seqI (g + 1) n) = seqI g (n + 1) := by
      cases n with
      | zero => rfl
      | succ n =>
        have : g < g + 1 := by omega
        simp only [seqI, ins, this, if_true]
    unfold acc
    rw [if_pos ⟨hr, Int.le_refl _, by omega, hnm⟩, hins]
    by_cases h31 : n + 1 ≤ 32
    · have hov : over32 g (seqI g (n + 1)) = (g, seqI g (n + 1)) := by unfold over32; rw [if_neg (by rw [seqI_len]; omega)]
      rw [hov]
      simp only
      rw [adv_seq]
      simp
      omega
    · obtain rfl : n = 32 := by omega
      have hov : over32 g (seqI g (32 + 1)) = (g + 1, seqI (g + 1) 32) := by unfold over32; rw [if_pos (by rw [seqI_len]; omega)]; rfl
      rw [hov]
      simp only
      rw [adv_seq]
      simp
      omega
  · rw [if_neg h, if_neg h]
    unfold acc
    rw [if_neg (by simp only; omega)]

theorem gap_first (g many : Nat) (hg : g < 40) : ∀ (m i ck : Nat) (v : V), i + m = g → Sv [] v → ∃ ck' v', Sv [] v' ∧ evL cfg (.loop f13l0) ⟨[(5, .pt ⟨5, 1, 0⟩ 2 0 0), (6, iv g), (7, iv many), (22, iv g), (23, iv i)], [(⟨5, 1, 0⟩, .box 49 [iv i, v])], ck⟩ =
    some (.exit 0, ⟨[(5, .pt ⟨5, 1, 0⟩ 2 0 0), (6, iv g), (7, iv many), (22, iv g), (23, iv g), (24, bv false)], [(⟨5, 1, 0⟩, .box 49 [iv g, v'])], ck'⟩) := by
  intro m
  induction m with
  | zero =>
    intro i ck v h hv
    obtain rfl : i = g := by omega
    refine ⟨ck + 1, v, hv, ?_⟩
    rw [evL_loop]
    simp [f13l0e]
  | succ m ih =>
    intro i ck v h hv
    have hi : i < g := by omega
    have hw : IntKind.i64.wrap ((i : Int) + 1) = (i : Int) + 1 := wrap_id (by omega) (by omega)
    have hA := fun s k2 => accept_call hv i (low := i) ⟨by omega, by omega⟩ (by simp) (by simp) s k2
    rw [acc_next (by omega) (by omega)] at hA
    obtain ⟨ck', v', hv', hc⟩ := ih (i + 1) (ck + 4) (.t (il [])) (by omega) (.inl rfl)
    refine ⟨ck', v', hv', ?_⟩
    simp only [accV, iv, bv, il] at hA
    rw [evL_loop_n (s1 := ⟨[(5, .pt ⟨5, 1, 0⟩ 2 0 0), (6, iv g), (7, iv many), (22, iv g), (23, iv ((i + 1 : Nat) : Int))], [(⟨5, 1, 0⟩, .box 49 [iv ((i + 1 : Nat) : Int), .t (il [])])], ck + 4⟩), hc]
    simp [f13l0e, hi, hA, hw, over, il]

theorem gap_second (g many : Nat) (hg : g < 40) (hm : many < 60) : ∀ (m i ck : Nat) (v : V), i + m = many → Sv (gapW g i).2 v → ∃ ck' v', Sv (gapW g many).2 v' ∧ evL cfg (.loop f13l1) ⟨[(5, .pt ⟨5, 1, 0⟩ 2 0 0), (6, iv g), (7, iv many), (33, iv many), (34, iv i)], [(⟨5, 1, 0⟩, .box 49 [iv (gapW g i).1, v])], ck⟩ =
    some (.exit 2, ⟨[(5, .pt ⟨5, 1, 0⟩ 2 0 0), (6, iv g), (7, iv many), (33, iv many), (34, iv many), (35, bv false)], [(⟨5, 1, 0⟩, .box 49 [iv (gapW g many).1, v'])], ck'⟩) := by
  intro m
  induction m with
  | zero =>
    intro i ck v h hv
    obtain rfl : i = many := by omega
    refine ⟨ck + 1, v, hv, ?_⟩
    rw [evL_loop]
    simp [f13l1e]
  | succ m ih =>
    intro i ck v h hv
    have hi : i < many := by omega
    have hw : IntKind.i64.wrap ((i : Int) + 1) = (i : Int) + 1 := wrap_id (by omega) (by omega)
    have hw1 : IntKind.i64.wrap ((g : Int) + 1) = (g : Int) + 1 := wrap_id (by omega) (by omega)
    have hw2 : IntKind.i64.wrap ((g : Int) + 1 + (i : Int)) = (g : Int) + 1 + i := wrap_id (by omega) (by omega)
    obtain ⟨b1, b2, b3⟩ := (gap_is (g := g) (i := i) (by omega) (by omega) (by omega)).bnd (by omega)
    have hA := fun s k2 => accept_call hv ((g : Int) + 1 + i) b1 b2 b3 s k2
    rw [gap_next (by omega) (by omega) (by omega)] at hA
    obtain ⟨ck', v', hv', hc⟩ := ih (i + 1) (ck + 6) (.t (il (gapW g (i + 1)).2)) (by omega) (.inl rfl)
    refine ⟨ck', v', hv', ?_⟩
    generalize (gapW g i).1 = a1 at hA
    generalize (gapW g (i + 1)).1 = a3 at hA hc
    generalize (gapW g (i + 1)).2 = a4 at hA hc
    simp only [accV, iv, bv, il] at hA
    rw [evL_loop_n (s1 := ⟨[(5, .pt ⟨5, 1, 0⟩ 2 0 0), (6, iv g), (7, iv many), (33, iv many), (34, iv ((i + 1 : Nat) : Int))], [(⟨5, 1, 0⟩, .box 49 [iv a3, .t (il a4)])], ck + 6⟩), hc]
    simp [f13l1e, hi, hA, hw, hw1, hw2, over, il]

set_option maxHeartbeats 4000000 in
theorem wgap (gap many : Nat) (hg : gap ≤ 255) (hm : many ≤ 255) : ∃ hp c, runL cfg 13 [.t (.i .u8 gap), .t (.i .u8 many)] [] 0 = some (bv true, hp, c) := by
  have ha := fun s k => callEv_tr (C := cfg) awake_ret rfl rfl rfl s k
  simp only [bv] at ha
  rw [runL_pf (fn := f13) rfl rfl]
  have hm1 : (gap : Int).tmod 40 = ((gap % 40 : Nat) : Int) := by rw [Int.tmod_eq_emod_of_nonneg (by omega)]; omega
  have hm2 : (many : Int).tmod 60 = ((many % 60 : Nat) : Int) := by rw [Int.tmod_eq_emod_of_nonneg (by omega)]; omega
  obtain ⟨g, hge⟩ : ∃ g, g = gap % 40 := ⟨_, rfl⟩
  obtain ⟨n, hne⟩ : ∃ n, n = many % 60 := ⟨_, rfl⟩
  rw [← hge] at hm1
  rw [← hne] at hm2
  have hg40 : g < 40 := by omega
  have hn60 : n < 60 := by omega
  have hw1 : IntKind.i64.wrap (g : Int) = g := wrap_id (by omega) (by omega)
  have hw2 : IntKind.i64.wrap (n : Int) = n := wrap_id (by omega) (by omega)
  have hw3 : IntKind.i64.wrap ((g : Int) + (n : Int)) = (g : Int) + n := wrap_id (by omega) (by omega)
  have hw4 : IntKind.i64.wrap ((g : Int) + (n : Int) + 1) = (g : Int) + n + 1 := wrap_id (by omega) (by omega)
  obtain ⟨c1, v1, hv1, h1⟩ := gap_first g n hg40 g 0 4 .nl (by omega) (.inr ⟨rfl, rfl⟩)
  have hg0 : gapW g 0 = ((g : Int), []) := rfl
  obtain ⟨c2, v2, hv2, h2⟩ := gap_second g n hg40 hn60 n 0 (c1 + 1) v1 (by omega) (by rw [hg0]; exact hv1)
  rw [hg0] at h2
  obtain ⟨b1, b2, b3⟩ := (gap_is (g := g) (i := n) (by omega) (by omega) (by omega)).bnd (by omega)
  have hA := fun s k2 => accept_call hv2 (g : Int) b1 b2 b3 s k2
  rw [gap_last (by omega) (by omega) (by omega)] at hA
  by_cases h32 : n ≤ 32
  · have h32' : (n : Int) ≤ 32 := by omega
    have h32n : ¬ (32 : Int) < n := by omega
    rw [if_pos h32] at hA
    have hB := fun s k2 => accept_call (.inl rfl) (g : Int) (low := (g : Int) + n + 1) (l := []) ⟨by omega, by omega⟩ (by simp) (by simp) s k2
    have he : acc ((g : Int) + n + 1) [] g = ((g : Int) + n + 1, [], false) := by unfold acc; rw [if_neg (by omega)]
    rw [he] at hB
    have hgw : gapW g n = ((g : Int), seqI (g + 1) n) := by unfold gapW; rw [if_pos h32]
    rw [hgw] at hA h2
    simp only [accV, iv, bv, il, List.map_nil, Int.natCast_zero] at hA hB h1 h2
    simp [hm1, hm2, hw1, hw2, hw3, hw4, h1, h2, hA, hB, h32', h32n, over, ha]
  · have h32' : ¬ (n : Int) ≤ 32 := by omega
    have h32n : (32 : Int) < n := by omega
    rw [if_neg h32] at hA
    have hB := fun s k2 => accept_call (.inl rfl) (g : Int) (low := (g : Int) + 1 + n) (l := []) ⟨by omega, by omega⟩ (by simp) (by simp) s k2
    have he : acc ((g : Int) + 1 + n) [] g = ((g : Int) + 1 + n, [], false) := by unfold acc; rw [if_neg (by omega)]
    rw [he] at hB
    have hgw : gapW g n = ((g : Int) + 1 + n, []) := by unfold gapW; rw [if_neg h32]
    rw [hgw] at hA h2
    simp only [accV, iv, bv, il, List.map_nil, Int.natCast_zero] at hA hB h1 h2
    simp [hm1, hm2, hw1, hw2, hw3, hw4, h1, h2, hA, hB, h32', h32n, over, ha]

theorem windowGap_ev (xs : List V) (h : ArgsFit PP 8 [5, 5] xs) : ∃ hp c, runL cfg 13 xs [] 0 = some (bv true, hp, c) := by
  obtain ⟨x1, r, rfl, h1, h⟩ := argsFit_cons h
  obtain ⟨x2, r, rfl, h2, h⟩ := argsFit_cons h
  cases argsFit_nil h
  obtain ⟨st, rfl, hs⟩ := a_u8 h1
  obtain ⟨fr, rfl, hf⟩ := a_u8 h2
  exact wgap st fr hs hf
end Go.Proofs.Ytchjpboiebdabaa.Pv
