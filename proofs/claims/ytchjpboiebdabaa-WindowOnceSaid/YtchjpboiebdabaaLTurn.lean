/- WindowTurn, reckoned. -/
import Derived.Test.YtchjpboiebdabaaSWin5
import Derived.Test.YtchjpboiebdabaaArgsI
set_option linter.unusedVariables false
set_option linter.unusedSimpArgs false
namespace Go.Proofs.Ytchjpboiebdabaa.Pv
open Go Go.Pev

theorem pair_len : ∀ (l : List Int) (lo hi : Int), l.Pairwise (· < ·) → (∀ x ∈ l, lo < x ∧ x ≤ hi) → l = [] ∨ (l.length : Int) ≤ hi - lo
  | [], _, _, _, _ => .inl rfl
  | x :: r, lo, hi, hp, hm => by
    have hp' := List.pairwise_cons.1 hp
    have hx := hm x List.mem_cons_self
    rcases pair_len r x hi hp'.2 (fun y hy => ⟨hp'.1 y hy, (hm y (List.mem_cons_of_mem _ hy)).2⟩) with h | h
    · subst h; right; simp; omega
    · right; simp; omega
theorem adv_sum : ∀ (l : List Int) (low : Int), (adv low l).1 + ((adv low l).2.length : Int) = low + l.length
  | [], low => rfl
  | x :: r, low => by
    simp only [adv]
    split
    · rw [adv_sum r]; simp; omega
    · rfl
theorem acc_sum {B low n : Int} {l : List Int} (h : WIs B low l) (hB : B < 2147483647) (h0 : low ≤ n) (hn : n ≤ B) (hnl : ¬ n ∈ l) (hl : l.length < 32) : (acc low l n).1 + ((acc low l n).2.1.length : Int) = low + l.length + 1 := by
  have hil := ins_len n l
  unfold acc
  rw [if_pos ⟨h.right hB, h0, by omega, hnl⟩]
  have : over32 low (ins n l) = (low, ins n l) := by unfold over32; rw [if_neg (by omega)]
  rw [this]
  have := adv_sum (ins n l) low
  rw [hil] at this
  simp only at this ⊢
  omega

theorem odd_step : ∀ (d m : Fin 32), d.val % 2 = 1 → m.val ≠ 0 → (m.val * d.val) % 32 ≠ 0 := by decide
/-- The places that a walk by odd steps comes to. -/
def atT (a d j : Nat) : Nat := (a + j * d) % 32
theorem atT_ne {a d j k : Nat} (hd : d % 2 = 1) (hj : j < k) (hk : k < 32) : atT a d j ≠ atT a d k := by
  unfold atT
  have h := odd_step ⟨d % 32, by omega⟩ ⟨k - j, by omega⟩ (by simp only; omega) (by simp only; omega)
  simp only at h
  have e : k * d = j * d + (k - j) * d := by rw [← Nat.add_mul]; congr 1; omega
  have e2 : (k - j) * d % 32 = (k - j) * (d % 32) % 32 := by rw [Nat.mul_mod, Nat.mul_mod (k - j) (d % 32), Nat.mod_mod]
  rw [← e2] at h
  rw [e]
  generalize j * d = p at *
  generalize (k - j) * d = q at *
  omega
theorem atT_next (a d j : Nat) : (atT a d j + d) % 32 = atT a d (j + 1) := by
  unfold atT
  rw [Nat.add_mul]
  generalize j * d = p
  omega

/-- What came so far. -/
def Turned (a d k : Nat) (low : Int) (l : List Int) : Prop := WIs 31 low l ∧ (∀ x ∈ l, low < x) ∧ (∀ x, x < low ∨ x ∈ l → x < 0 ∨ ∃ j, j < k ∧ x = atT a d j) ∧ low + (l.length : Int) = k
theorem turned_next {a d k : Nat} {low : Int} {l : List Int} (h : Turned a d k low l) (hd : d % 2 = 1) (hk : k < 32) :
    (acc low l (atT a d k)).2.2 = true ∧ Turned a d (k + 1) (acc low l (atT a d k)).1 (acc low l (atT a d k)).2.1 ∧ (acc (acc low l (atT a d k)).1 (acc low l (atT a d k)).2.1 (atT a d k)).2.2 = false := by
  obtain ⟨h1, h2, h3, h4⟩ := h
  have hat : (atT a d k : Int) ≤ 31 := by have : atT a d k < 32 := Nat.mod_lt _ (by omega); omega
  have hnot : ¬ ((atT a d k : Int) < low ∨ (atT a d k : Int) ∈ l) := fun hh => by
    rcases h3 _ hh with h | ⟨j, hj, he⟩
    · omega
    · exact atT_ne (a := a) hd hj hk (by omega)
  have hl32 : l.length < 32 := by
    rcases pair_len l low 31 h1.2.2.1 (fun x hx => ⟨h2 x hx, (h1.2.2.2.1 x hx).2⟩) with h | h
    · rw [h]; simp
    · have := h1.1; omega
  obtain ⟨a1, a2, a3, a4, a5, a6⟩ := acc_is h1 (by omega) (n := (atT a d k : Int)) (by omega) hat
  have hsum := acc_sum h1 (by omega) (n := (atT a d k : Int)) (by omega) hat (fun h => hnot (.inr h)) hl32
  refine ⟨by rw [a1]; simpa using hnot, ⟨a2, a5 h2, fun x hx => ?_, by omega⟩, ?_⟩
  · rcases a6 hl32 x hx with h | h | h
    · rcases h3 x (.inl h) with h | ⟨j, hj, he⟩
      · exact .inl h
      · exact .inr ⟨j, by omega, he⟩
    · rcases h3 x (.inr h) with h | ⟨j, hj, he⟩
      · exact .inl h
      · exact .inr ⟨j, by omega, he⟩
    · exact .inr ⟨k, by omega, h⟩
  · obtain ⟨b1, _⟩ := acc_is a2 (by omega) (n := (atT a d k : Int)) (by omega) hat
    rw [b1]
    rw [decide_eq_false_iff_not]
    exact fun h => h a4
theorem turned_all {a d : Nat} {low : Int} {l : List Int} (h : Turned a d 32 low l) : low = 32 ∧ l = [] := by
  obtain ⟨h1, h2, h3, h4⟩ := h
  rcases pair_len l low 31 h1.2.2.1 (fun x hx => ⟨h2 x hx, (h1.2.2.2.1 x hx).2⟩) with h | h
  · subst h; simp at h4; exact ⟨h4, rfl⟩
  · have := h1.2.1
    have : low = 32 := by omega
    exact ⟨this, List.eq_nil_of_length_eq_zero (by omega)⟩

theorem WIs.bnd {B low : Int} {l : List Int} (h : WIs B low l) (hB : B < 2147483647) : I64' low ∧ l.length ≤ 1000000 ∧ ∀ n ∈ l, I64' n := by
  obtain ⟨h1, h2, h3, h4, h5⟩ := h
  exact ⟨⟨by omega, by omega⟩, by omega, fun n hn => by have := h4 n hn; exact ⟨by omega, by omega⟩⟩

set_option maxHeartbeats 4000000 in
theorem turn_loop (st : Nat) (a : Nat) (hst : st ≤ 255) (ha : a < 32) : ∀ (m k ck : Nat) (low : Int) (l : List Int) (v : V), k + m = 32 → Sv l v → Turned a (2 * st + 1) k low l → ∃ ck' v', Sv [] v' ∧ evL cfg (.loop f11l0) ⟨[(0, .t (.i .u8 st)), (5, .pt ⟨5, 1, 0⟩ 2 0 0), (6, iv (atT a (2 * st + 1) k)), (14, iv k)], [(⟨5, 1, 0⟩, .box 49 [iv low, v])], ck⟩ =
    some (.exit 0, ⟨[(0, .t (.i .u8 st)), (5, .pt ⟨5, 1, 0⟩ 2 0 0), (6, iv (atT a (2 * st + 1) 32)), (14, iv 32), (15, bv false)], [(⟨5, 1, 0⟩, .box 49 [iv 32, v'])], ck'⟩) := by
  intro m
  induction m with
  | zero =>
    intro k ck low l v h hv ht
    obtain rfl : k = 32 := by omega
    obtain ⟨rfl, rfl⟩ := turned_all ht
    refine ⟨ck + 1, v, hv, ?_⟩
    rw [evL_loop]
    simp [f11l0e]
  | succ m ih =>
    intro k ck low l v h hv ht
    have hk : (k : Int) < 32 := by omega
    obtain ⟨t1, t2, t3⟩ := turned_next ht (by omega) (by omega)
    obtain ⟨b1, b2, b3⟩ := ht.1.bnd (by omega)
    obtain ⟨b4, b5, b6⟩ := t2.1.bnd (by omega)
    have hA := fun s k2 => accept_call hv (atT a (2 * st + 1) k) b1 b2 b3 s k2
    have hA2 := fun s k2 => accept_call (.inl rfl) (atT a (2 * st + 1) k) b4 b5 b6 s k2
    have hw : IntKind.i64.wrap ((k : Int) + 1) = (k : Int) + 1 := wrap_id (by omega) (by omega)
    have hlt : atT a (2 * st + 1) k < 32 := Nat.mod_lt _ (by omega)
    have hn := atT_next a (2 * st + 1) k
    have hw1 : IntKind.i64.wrap (st : Int) = st := wrap_id (by omega) (by omega)
    have hw2 : IntKind.i64.wrap (2 * (st : Int)) = 2 * st := wrap_id (by omega) (by omega)
    have hw3 : IntKind.i64.wrap ((atT a (2 * st + 1) k : Int) + 2 * (st : Int)) = (atT a (2 * st + 1) k : Int) + 2 * st := wrap_id (by omega) (by omega)
    have hw4 : IntKind.i64.wrap ((atT a (2 * st + 1) k : Int) + 2 * (st : Int) + 1) = (atT a (2 * st + 1) k : Int) + 2 * st + 1 := wrap_id (by omega) (by omega)
    have hm1 : ((atT a (2 * st + 1) k : Int) + 2 * (st : Int) + 1).tmod 32 = (atT a (2 * st + 1) (k + 1) : Int) := by
      rw [Int.tmod_eq_emod_of_nonneg (by omega)]
      omega
    obtain ⟨ck', v', hv', hc⟩ := ih (k + 1) (ck + 7) _ _ (.t (il (acc low l (atT a (2 * st + 1) k)).2.1)) (by omega) (.inl rfl) t2
    refine ⟨ck', v', hv', ?_⟩
    generalize acc low l (atT a (2 * st + 1) k) = r at hA hA2 t1 t3 hc
    obtain ⟨lo, l2, ok⟩ := r
    simp only at hA hA2 t1 t3 hc
    subst t1
    generalize acc lo l2 (atT a (2 * st + 1) k) = r2 at hA2 t3
    obtain ⟨lo2, l3, ok2⟩ := r2
    simp only at t3
    subst t3
    simp only [accV, iv, bv, il] at hA hA2
    rw [evL_loop_n (s1 := ⟨[(0, .t (.i .u8 st)), (5, .pt ⟨5, 1, 0⟩ 2 0 0), (6, iv (atT a (2 * st + 1) (k + 1))), (14, iv ((k + 1 : Nat) : Int))], [(⟨5, 1, 0⟩, .box 49 [iv lo, .t (il l2)])], ck + 7⟩), hc]
    simp [f11l0e, hk, hA, hA2, hw, hw1, hw2, hw3, hw4, hm1, over, il]

theorem wturn (st fr : Nat) (hst : st ≤ 255) (hfr : fr ≤ 255) : ∃ hp c, runL cfg 11 [.t (.i .u8 st), .t (.i .u8 fr)] [] 0 = some (bv true, hp, c) := by
  have ha := fun s k => callEv_tr (C := cfg) awake_ret rfl rfl rfl s k
  simp only [bv] at ha
  rw [runL_pf (fn := f11) rfl rfl]
  have hw1 : IntKind.i64.wrap (fr : Int) = fr := wrap_id (by omega) (by omega)
  have hm1 : (fr : Int).tmod 32 = ((fr % 32 : Nat) : Int) := by rw [Int.tmod_eq_emod_of_nonneg (by omega)]; omega
  have hlt : fr % 32 < 32 := Nat.mod_lt _ (by omega)
  generalize fr % 32 = q at hm1 hlt
  have h0 : atT q (2 * st + 1) 0 = q := by unfold atT; omega
  have ht : Turned q (2 * st + 1) 0 0 [] := ⟨⟨by omega, by omega, .nil, by simp, by simp⟩, by simp, fun x hx => by simp at hx; exact .inl hx, by simp⟩
  obtain ⟨ck', v', hv', hc⟩ := turn_loop st q hst hlt 32 0 4 0 [] .nl (by omega) (.inr ⟨rfl, rfl⟩) ht
  rw [h0] at hc
  simp only [iv, bv, Int.natCast_zero] at hc
  rcases hv' with rfl | ⟨rfl, _⟩ <;> simp [hw1, hm1, hc, ha, il]

theorem u_u8 : PP.underlying 5 = some (.int .u8) := by kernel_rfl
theorem a_u8 {k : Nat} {x : V} (h : ArgFit PP (k + 1) 5 x) : ∃ m : Nat, x = .t (.i .u8 m) ∧ m ≤ 255 := by
  obtain ⟨m, rfl, hw⟩ := argFit_int u_u8 h
  simp only [Lit.wf, Bool.and_eq_true, decide_eq_true_eq] at hw
  have h1 : IntKind.u8.min = 0 := by decide
  have h2 : IntKind.u8.max = 255 := by decide
  exact ⟨m.toNat, by rw [show ((m.toNat : Nat) : Int) = m by omega], by omega⟩
theorem windowTurn_ev (xs : List V) (h : ArgsFit PP 8 [5, 5] xs) : ∃ hp c, runL cfg 11 xs [] 0 = some (bv true, hp, c) := by
  obtain ⟨x1, r, rfl, h1, h⟩ := argsFit_cons h
  obtain ⟨x2, r, rfl, h2, h⟩ := argsFit_cons h
  cases argsFit_nil h
  obtain ⟨st, rfl, hs⟩ := a_u8 h1
  obtain ⟨fr, rfl, hf⟩ := a_u8 h2
  exact wturn st fr hs hf
end Go.Proofs.Ytchjpboiebdabaa.Pv
