/- PortFlows, reckoned. -/
import Derived.Test.YtfclnkhhabiheaaLPort2
set_option linter.unusedVariables false
set_option linter.unusedSimpArgs false
set_option maxRecDepth 100000
namespace Go.Proofs.Ytfclnkhhabiheaa.Pv
open Go Go.Pev

def sl' (l : List (List UInt8)) : T := .l (l.map fun s => [.s s])
theorem send_q {p : Prt} {v1 v2 : V} (h1 : Nv (fl p.q) v1) (h2 : Nv (il p.seen) v2) (text : List UInt8) (hl : p.q.length ≤ 100000) (ht : text.length ≤ 900000) (h : HP) : callQ (runL cfg) 23 [.ag [iv p.next, v1, iv p.low, v2], .t (.s text)] h = some (sendV (sendP p text)) :=
  callQ_t (ports_pure h1 h2 _ h).1 (send_ret p text hl ht) (.inr (ports_pure h1 h2 _ h).2)
theorem send_next {n : Int} (h : 0 ≤ n ∧ n < 2147483647) (low : Int) (seen : List Int) (t : List UInt8) : sendP ⟨n, [], low, seen⟩ t = (⟨n + 1, [(n, t)], low, seen⟩, packR 68 n t, 0) := by
  have h1 : ¬ (n = 2147483647) := by omega
  have h2 : lright n [] = true := by simp [lright, upF]; omega
  simp [sendP, pushP, h1, h2, busyP]

def flowB (i : Nat) (a1 a2 b1 b2 : V) : HP := [(⟨4, 1, 1⟩, .box 40 [iv 0, b1, iv i, b2]), (⟨3, 1, 0⟩, .box 40 [iv i, a1, iv 0, a2])]

set_option maxHeartbeats 4000000 in
theorem flow_step (l : List (List UInt8)) (i : Nat) (hi : i < l.length) (h200 : i < 200) (hs : l[i].length ≤ 20) (a1 a2 b1 b2 : V) (n1 : Nv (.l []) a1) (n2 : Nv (.l []) a2) (n3 : Nv (.l []) b1) (n4 : Nv (.l []) b2) (ck : Nat) : evL cfg f8l0 ⟨[(0, .t (sl' l)), (3, .pt ⟨3, 1, 0⟩ 4 0 0), (4, .pt ⟨4, 1, 1⟩ 4 0 0), (5, iv i)], flowB i a1 a2 b1 b2, ck⟩ =
    some (.normal, ⟨[(0, .t (sl' l)), (3, .pt ⟨3, 1, 0⟩ 4 0 0), (4, .pt ⟨4, 1, 1⟩ 4 0 0), (5, iv ((i + 1 : Nat) : Int))], flowB (i + 1) (.t (.l [])) (.t (.l [])) (.t (.l [])) (.t (.l [])), ck + 8⟩) := by
  have hS := fun h => send_q (p := ⟨i, [], 0, []⟩) (v1 := a1) (v2 := a2) n1 n2 l[i] (by simp) (by omega) h
  rw [send_next (by omega)] at hS
  have hln := packR_len (kind := 68) (seq := i) (t := l[i])
  have hln2 := packR_len (kind := 65) (seq := i) (t := [])
  simp only [List.length_nil] at hln2
  have hR := fun s k => recv_call (p := ⟨0, [], i, []⟩) (v1 := b1) (v2 := b2) n3 n4 (packR 68 i l[i]) (by simp) (by omega) (by simp only [I64']; omega) (by simp) (by simp) s k
  rw [recv_data (by omega)] at hR
  simp only [acc_next (n := (i : Int)) (by omega) (by omega), if_true] at hR
  have hT := fun s k => recv_call (p := ⟨(i : Int) + 1, [((i : Int), l[i])], 0, []⟩) (v1 := .t (fl [((i : Int), l[i])])) (v2 := .t (il [])) (.inl rfl) (.inl rfl) (packR 65 i []) (by simp) (by omega) (by simp [I64']) (by simp) (by simp) s k
  rw [recv_told (by omega)] at hT
  have hw : IntKind.i64.wrap ((i : Int) + 1) = (i : Int) + 1 := wrap_id (by omega) (by omega)
  have hli : l[i]? = some l[i] := List.getElem?_eq_getElem hi
  have d1 : decide ((20 : Int) < (l[i].length : Int)) = false := decide_eq_false (by omega)
  have d2 : decide ((i : Int) < (l.length : Int)) = true := decide_eq_true (by omega)
  have d3 : decide ((i : Int) < 200) = true := decide_eq_true (by omega)
  generalize packR 68 i l[i] = k1 at *
  generalize packR 65 i [] = k2 at *
  simp only [sendV, recvV, prV, fl, il, iv, bv, List.map_nil, List.map_cons] at hS hR hT
  simp [keepF] at hS hR hT
  simp only [flowB, iv]
  simp [f8l0e, sl', hS, hR, hT, hw, hi, d1, d2, d3, h200, over, apart]

theorem flow_loop (l : List (List UInt8)) : ∀ (k i : Nat) (a1 a2 b1 b2 : V) (ck : Nat), i + k = min l.length 200 → Nv (.l []) a1 → Nv (.l []) a2 → Nv (.l []) b1 → Nv (.l []) b2 → ∃ e env hp c, evL cfg (.loop f8l0) ⟨[(0, .t (sl' l)), (3, .pt ⟨3, 1, 0⟩ 4 0 0), (4, .pt ⟨4, 1, 1⟩ 4 0 0), (5, iv i)], flowB i a1 a2 b1 b2, ck⟩ = some (e, ⟨env, hp, c⟩) ∧ (e = .exit 0 ∨ (e = .ret ∧ env.get 2 = bv true)) := by
  intro k
  induction k with
  | zero =>
    intro i a1 a2 b1 b2 ck h n1 n2 n3 n4
    refine ⟨.exit 0, [(0, .t (sl' l)), (3, .pt ⟨3, 1, 0⟩ 4 0 0), (4, .pt ⟨4, 1, 1⟩ 4 0 0), (5, iv i), (26, bv false)], flowB i a1 a2 b1 b2, ck + 1, ?_, .inl rfl⟩
    rw [evL_loop]
    simp only [flowB, iv]
    by_cases hi : i < l.length
    · have d2 : decide ((i : Int) < (l.length : Int)) = true := decide_eq_true (by omega)
      have d3 : decide ((i : Int) < 200) = false := decide_eq_false (by omega)
      simp [f8l0e, sl', hi, d2, d3]
    · have d2 : decide ((i : Int) < (l.length : Int)) = false := decide_eq_false (by omega)
      simp [f8l0e, sl', hi, d2]
  | succ k ih =>
    intro i a1 a2 b1 b2 ck h n1 n2 n3 n4
    have hi : i < l.length := by omega
    by_cases hs : l[i].length ≤ 20
    · obtain ⟨e, env, hp, c, h1, h2⟩ := ih (i + 1) (.t (.l [])) (.t (.l [])) (.t (.l [])) (.t (.l [])) (ck + 8) (by omega) (.inl rfl) (.inl rfl) (.inl rfl) (.inl rfl)
      refine ⟨e, env, hp, c, ?_, h2⟩
      rw [evL_loop_n (flow_step l i hi (by omega) hs a1 a2 b1 b2 n1 n2 n3 n4 ck), h1]
    · have ha := fun s k => callEv_tr (C := cfg) awake_ret rfl rfl rfl s k
      simp only [bv] at ha
      have hli : l[i]? = some l[i] := List.getElem?_eq_getElem hi
      have d1 : decide ((20 : Int) < (l[i].length : Int)) = true := decide_eq_true (by omega)
      have d2 : decide ((i : Int) < (l.length : Int)) = true := decide_eq_true (by omega)
      have d3 : decide ((i : Int) < 200) = true := decide_eq_true (by omega)
      refine ⟨.ret, [(2, bv true)], [], ck + 3, ?_, .inr ⟨rfl, by simp⟩⟩
      rw [evL_loop]
      simp only [flowB, iv]
      simp [f8l0e, sl', ha, hi, d1, d2, d3]

theorem flows (l : List (List UInt8)) : ∃ hp c, runL cfg 8 [.t (sl' l)] [] 0 = some (bv true, hp, c) := by
  have ha := fun s k => callEv_tr (C := cfg) awake_ret rfl rfl rfl s k
  simp only [bv] at ha
  obtain ⟨e, env, hp, c, h1, h2⟩ := flow_loop l (min l.length 200) 0 .nl .nl .nl .nl 3 (by omega) (.inr ⟨rfl, rfl⟩) (.inr ⟨rfl, rfl⟩) (.inr ⟨rfl, rfl⟩) (.inr ⟨rfl, rfl⟩)
  simp only [flowB, sl', iv, Int.natCast_zero] at h1
  rw [runL_pf (fn := f8) rfl rfl]
  rcases h2 with rfl | ⟨rfl, h2⟩
  · simp [sl', h1, ha]
  · simp only [bv] at h2
    simp [sl', h1, h2]

theorem u_strs : PP.underlying 57 = some (.slice 9) := by kernel_rfl
theorem a_strs {k : Nat} {x : V} (h : ArgFit PP (k + 2) 57 x) : ∃ l : List (List UInt8), x = .t (sl' l) := by
  obtain ⟨l, rfl, _, _⟩ := argFit_slice (mk := fun n : List UInt8 => [.s n]) (Q := fun s => s.length ≤ reachBytes) u_strs (fun c h => fits_string u_str h) h
  exact ⟨l, rfl⟩
theorem portFlows_ev (xs : List V) (h : ArgsFit PP 8 [57] xs) : ∃ hp c, runL cfg 8 xs [] 0 = some (bv true, hp, c) := by
  obtain ⟨x1, r, rfl, h1, h⟩ := argsFit_cons h
  cases argsFit_nil h
  obtain ⟨l, rfl⟩ := a_strs h1
  exact flows l
end Go.Proofs.Ytfclnkhhabiheaa.Pv
