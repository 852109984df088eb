/- PortBusy, reckoned. -/
import Derived.Test.YtfclnkhhabiheaaLPort3
set_option linter.unusedVariables false
set_option linter.unusedSimpArgs false
set_option maxRecDepth 100000
namespace Go.Proofs.Ytfclnkhhabiheaa.Pv
open Go Go.Pev

def qN (n : Nat) : List Fr := (List.range n).map fun i : Nat => ((i : Int), [120])
def pN (n : Nat) : Prt := ⟨n, qN n, 0, []⟩
theorem qN_succ (n : Nat) : qN (n + 1) = qN n ++ [((n : Int), [120])] := by simp [qN, List.range_succ]
theorem qN_len (n : Nat) : (qN n).length = n := by simp [qN]
theorem lr_all : (List.range 33).all (fun n => lright (n : Int) (qN n)) = true := by decide +kernel
theorem lr_at {n : Nat} (h : n < 33) : lright (n : Int) (qN n) = true := List.all_eq_true.1 lr_all n (List.mem_range.2 h)
theorem qN_head {n : Nat} (f : Fr) (r : List Fr) (h : qN n = f :: r) : f.1 = 0 := by
  cases n with
  | zero => cases h
  | succ n => rw [qN, List.range_succ_eq_map, List.map_cons] at h; cases h; rfl
theorem send_n {n : Nat} (h : n < 32) : sendP (pN n) [120] = (pN (n + 1), packR 68 n [120], 0) := by
  have h1 : ¬ ((n : Int) = 2147483647) := by omega
  have h2 := lr_at (n := n) (by omega)
  have h3 : ¬ (qN n).length = 64 := by rw [qN_len]; omega
  have h4 : ¬ busyP n (qN n) := by
    rintro ⟨f, r, e, hf⟩
    have := qN_head f r e
    omega
  simp [sendP, pN, pushP, h1, h2, h3, h4, qN_succ]
theorem send_full : sendP (pN 32) [120] = (pN 32, [], 8) := by
  have h1 : (pushP 32 (qN 32) [120]).2.2.2 ≠ 1 := by decide +kernel
  have h2 : busyP 32 (qN 32) := by decide +kernel
  have h1' : ¬ (pushP (pN 32).next (pN 32).q [120]).2.2.2 = 1 := h1
  have h2' : busyP (pN 32).next (pN 32).q := h2
  unfold sendP
  rw [if_neg h1', if_pos h2']
theorem told_all : (List.range 31).all (fun m => decide ((pushP 32 ((qN 32).filter (keepF (1 + (m : Int)))) [120]).2.2.2 ≠ 1) && decide (busyP 32 ((qN 32).filter (keepF (1 + (m : Int)))))) = true := by decide +kernel
theorem send_told {m : Nat} (h : m < 31) : sendP ⟨32, (qN 32).filter (keepF (1 + (m : Int))), 0, []⟩ [120] = (⟨32, (qN 32).filter (keepF (1 + (m : Int))), 0, []⟩, [], 8) := by
  have := List.all_eq_true.1 told_all m (List.mem_range.2 h)
  simp only [Bool.and_eq_true, decide_eq_true_eq] at this
  unfold sendP
  rw [if_neg this.1, if_pos this.2]
theorem send_last : sendP ⟨32, (qN 32).filter (keepF 0), 0, []⟩ [120] = (⟨33, (qN 32).filter (keepF 0) ++ [(32, [120])], 0, []⟩, packR 68 32 [120], 0) := by
  have h1 : (pushP 32 ((qN 32).filter (keepF 0)) [120]).2.2.2 = 0 := by decide +kernel
  have h2 : ¬ busyP 32 ((qN 32).filter (keepF 0)) := by decide +kernel
  unfold sendP
  rw [if_neg (by simp only [h1]; decide), if_neg h2, if_neg (by simp only [h1]; decide)]
  rfl

def busB (n : Nat) (v1 v2 : V) : HP := [(⟨3, 1, 0⟩, .box 40 [iv n, v1, iv 0, v2])]
theorem bus_step (x : V) (n : Nat) (hn : n < 32) (v1 v2 : V) (n1 : Nv (fl (qN n)) v1) (n2 : Nv (.l []) v2) (ck : Nat) : evL cfg f6l0 ⟨[(0, x), (3, .pt ⟨3, 1, 0⟩ 4 0 0), (18, iv n)], busB n v1 v2, ck⟩ =
    some (.normal, ⟨[(0, x), (3, .pt ⟨3, 1, 0⟩ 4 0 0), (18, iv ((n + 1 : Nat) : Int))], busB (n + 1) (.t (fl (qN (n + 1)))) (.t (.l [])), ck + 6⟩) := by
  have hS := fun s k => send_call (p := pN n) (v1 := v1) (v2 := v2) n1 n2 [120] (by simp only [pN, qN_len]; omega) (by simp) s k
  rw [send_n hn] at hS
  have hw : IntKind.i64.wrap ((n : Int) + 1) = (n : Int) + 1 := wrap_id (by omega) (by omega)
  have d1 : decide ((n : Int) < 32) = true := decide_eq_true (by omega)
  generalize packR 68 n [120] = k1 at *
  simp only [pN, sendV, prV, fl, il, iv, bv, List.map_nil, List.map_cons] at hS
  simp at hS
  generalize hq : qN (n + 1) = q1 at *
  simp only [busB, iv, fl]
  simp [f6l0e, hS, hw, hn, d1, over]
theorem bus_loop (x : V) : ∀ (k n : Nat) (v1 v2 : V) (ck : Nat), n + k = 32 → 0 < k → Nv (fl (qN n)) v1 → Nv (.l []) v2 → ∃ c, evL cfg (.loop f6l0) ⟨[(0, x), (3, .pt ⟨3, 1, 0⟩ 4 0 0), (18, iv n)], busB n v1 v2, ck⟩ =
    some (.exit 0, ⟨[(0, x), (3, .pt ⟨3, 1, 0⟩ 4 0 0), (18, iv 32), (19, bv false)], busB 32 (.t (fl (qN 32))) (.t (.l [])), c⟩) := by
  intro k
  induction k with
  | zero => intro n v1 v2 ck h h0; omega
  | succ k ih =>
    intro n v1 v2 ck h _ n1 n2
    have hs := bus_step x n (by omega) v1 v2 n1 n2 ck
    by_cases hk : k = 0
    · obtain rfl : n = 31 := by omega
      refine ⟨ck + 7, ?_⟩
      rw [evL_loop_n hs, evL_loop]
      simp only [busB, iv]
      generalize fl (qN (31 + 1)) = T1 at *
      simp [f6l0e]
    · obtain ⟨c, hc⟩ := ih (n + 1) (.t (fl (qN (n + 1)))) (.t (.l [])) (ck + 6) (by omega) (by omega) (.inl rfl) (.inl rfl)
      exact ⟨c, by rw [evL_loop_n hs, hc]⟩

set_option maxHeartbeats 4000000 in
theorem busy (b : Nat) (hb : b ≤ 255) : ∃ hp c, runL cfg 6 [.t (.i .u8 b)] [] 0 = some (bv true, hp, c) := by
  have ha := fun s k => callEv_tr (C := cfg) awake_ret rfl rfl rfl s k
  have haq := fun hp => callQ_tr (C := cfg) awake_ret rfl hp
  simp only [bv] at ha haq
  obtain ⟨c, hl⟩ := bus_loop (.t (.i .u8 b)) 32 0 .nl .nl 3 (by omega) (by omega) (.inr ⟨rfl, rfl⟩) (.inr ⟨rfl, rfl⟩)
  obtain ⟨m, hm⟩ : ∃ m : Nat, m = b % 31 := ⟨_, rfl⟩
  have hm2 : m < 31 := by rw [hm]; exact Nat.mod_lt _ (by omega)
  have r1 : ((b : Int)).tmod 31 = (m : Int) := by rw [hm, Int.tmod_eq_emod_of_nonneg (by omega)]; rfl
  have r2 : IntKind.i64.wrap (m : Int) = (m : Int) := wrap_id (by omega) (by omega)
  have r3 : IntKind.i64.wrap (1 + (m : Int)) = 1 + (m : Int) := wrap_id (by omega) (by omega)
  have q32 : (qN 32).length = 32 := qN_len 32
  have hA := fun s k => send_call (p := pN 32) (v1 := .t (fl (qN 32))) (v2 := .t (.l [])) (.inl rfl) (.inl rfl) [120] (by simp only [pN, qN_len]; omega) (by simp) s k
  rw [send_full] at hA
  have hT := fun st k => callEv_tr (C := cfg) (told_ret 32 (qN 32) (1 + (m : Int)) (by omega)) rfl rfl rfl st k
  have hT0 := fun st k => callEv_tr (C := cfg) (told_ret 32 (qN 32) 0 (by omega)) rfl rfl rfl st k
  have hB := fun s k => send_call (p := ⟨32, (qN 32).filter (keepF (1 + (m : Int))), 0, []⟩) (v1 := .t (fl ((qN 32).filter (keepF (1 + (m : Int)))))) (v2 := .nl) (.inl rfl) (.inr ⟨rfl, rfl⟩) [120] (by have := List.length_filter_le (keepF (1 + (m : Int))) (qN 32); simp only; omega) (by simp) s k
  rw [send_told hm2] at hB
  have hC := fun s k => send_call (p := ⟨32, (qN 32).filter (keepF 0), 0, []⟩) (v1 := .t (fl ((qN 32).filter (keepF 0)))) (v2 := .nl) (.inl rfl) (.inr ⟨rfl, rfl⟩) [120] (by have := List.length_filter_le (keepF 0) (qN 32); simp only; omega) (by simp) s k
  rw [send_last] at hC
  simp only [pN] at hA
  generalize (qN 32).filter (keepF 0) ++ [(32, [120])] = Q3 at *
  generalize (qN 32).filter (keepF 0) = Q1 at *
  generalize (qN 32).filter (keepF (1 + (m : Int))) = Q2 at *
  generalize qN 32 = Q0 at *
  generalize packR 68 32 [120] = k1 at *
  simp only [busB, sendV, prV, il, iv, bv, List.map_nil, Int.natCast_zero] at hA hB hC hT hT0 hl
  generalize fl Q0 = T0 at *
  generalize fl Q1 = T1 at *
  generalize fl Q2 = T2 at *
  generalize fl Q3 = T3 at *
  simp at hA hB hC hT hT0 hl
  rw [runL_pf (fn := f6) rfl rfl]
  simp [ha, haq, hl, hA, hB, hC, hT, hT0, r1, r2, r3, buildV, over]

theorem portBusy_ev (xs : List V) (h : ArgsFit PP 8 [5] xs) : ∃ hp c, runL cfg 6 xs [] 0 = some (bv true, hp, c) := by
  obtain ⟨x1, r, rfl, h1, h⟩ := argsFit_cons h
  cases argsFit_nil h
  obtain ⟨b, rfl, hb⟩ := a_u8 h1
  exact busy b hb
end Go.Proofs.Ytfclnkhhabiheaa.Pv
