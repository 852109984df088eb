/- The port's calls, and the fixed answer. -/
import Derived.Test.YtccnadleegcobaaSPort4
import Derived.Test.YtccnadleegcobaaSWin4
set_option linter.unusedVariables false
set_option linter.unusedSimpArgs false
namespace Go.Proofs.Ytccnadleegcobaa.Pv
open Go Go.Pev

/-- A slice, or nil for an empty one. -/
def Nv (t : T) (v : V) : Prop := v = .t t ∨ (v = .nl ∧ t = .l [])
theorem ports_pure {p : Prt} {v1 v2 : V} (h1 : Nv (fl p.q) v1) (h2 : Nv (il p.seen) v2) (t : T) (h : HP) : puresOf h [.ag [iv p.next, v1, iv p.low, v2], .t t] = some [prV p, .t t] ∧ [V.ag [iv p.next, v1, iv p.low, v2], .t t].flatMap (keysOf h) = [] := by
  rcases h1 with rfl | ⟨rfl, e1⟩ <;> rcases h2 with rfl | ⟨rfl, e2⟩ <;> constructor <;> (try have e2' := List.map_eq_nil_iff.1 (T.l.inj e2)) <;> simp [puresOf, pureOf, treesOf, treeOf, prV, iv, keysOf, keysOf1, *]
theorem port_pure {p : Prt} {v1 v2 : V} (h1 : Nv (fl p.q) v1) (h2 : Nv (il p.seen) v2) (h : HP) : puresOf h [.ag [iv p.next, v1, iv p.low, v2]] = some [prV p] ∧ [V.ag [iv p.next, v1, iv p.low, v2]].flatMap (keysOf h) = [] := by
  rcases h1 with rfl | ⟨rfl, e1⟩ <;> rcases h2 with rfl | ⟨rfl, e2⟩ <;> constructor <;> (try have e2' := List.map_eq_nil_iff.1 (T.l.inj e2)) <;> simp [puresOf, pureOf, treesOf, treeOf, prV, iv, keysOf, keysOf1, *]
theorem send_call {p : Prt} {v1 v2 : V} (h1 : Nv (fl p.q) v1) (h2 : Nv (il p.seen) v2) (text : List UInt8) (hl : p.q.length ≤ 100000) (ht : text.length ≤ 900000) (s : St) (k : Key) : callEv cfg (runL cfg) 9 [.ag [iv p.next, v1, iv p.low, v2], .t (.s text)] s k = some (sendV (sendP p text), s.hp, s.ck) :=
  callEv_t rfl rfl (ports_pure h1 h2 _ s.hp).1 (send_ret p text hl ht) (.inr (ports_pure h1 h2 _ s.hp).2)
theorem recv_call {p : Prt} {v1 v2 : V} (h1 : Nv (fl p.q) v1) (h2 : Nv (il p.seen) v2) (t : List UInt8) (hl : p.q.length ≤ 100000) (hs : t.length ≤ 100000) (hlow : I64' p.low) (hsl : p.seen.length ≤ 1000000) (hn : ∀ n ∈ p.seen, I64' n) (s : St) (k : Key) : callEv cfg (runL cfg) 12 [.ag [iv p.next, v1, iv p.low, v2], .t (.s t)] s k = some (recvV (recvP p t), s.hp, s.ck) :=
  callEv_t rfl rfl (ports_pure h1 h2 _ s.hp).1 (recv_ret p t hl hs hlow hsl hn) (.inr (ports_pure h1 h2 _ s.hp).2)

theorem again0_ret (next low : Int) (seen : List Int) : RetT cfg 6 [prV ⟨next, [], low, seen⟩] (.t (.l [])) := by
  unfold RetT
  rw [runL_pf (fn := f6) rfl rfl]
  have hl : ∀ ck, evL cfg (.loop f6l0) ⟨[(3, .ow ⟨3, 1, 0⟩ 1 0 0), (10, .t (.l [])), (11, iv 0), (12, iv 0)], [(⟨3, 1, 0⟩, .row 9 1 [] false)], ck⟩ = some (.exit 0, ⟨[(3, .ow ⟨3, 1, 0⟩ 1 0 0), (10, .t (.l [])), (11, iv 0), (12, iv 0), (13, bv false)], [(⟨3, 1, 0⟩, .row 9 1 [] false)], ck + 1⟩) := fun ck => by
    rw [evL_loop]
    simp [f6l0e]
  simp only [iv, bv] at hl
  simp [prV, fl, hl]
  refine ⟨_, _, ⟨rfl, rfl⟩, ?_⟩
  simp [resOf, resOf1, treesOf, treeOf]

theorem acc_next {n : Int} (h0 : 0 ≤ n) (h1 : n ≤ 2147483647) : acc n [] n = (n + 1, [], true) := by
  simp [acc, wright, upM, h0, h1, ins, over32, adv]
def p0 : Prt := ⟨0, [], 0, []⟩
theorem send0 (t : List UInt8) : sendP p0 t = (⟨1, [(0, t)], 0, []⟩, packR 68 0 t, 0) := by
  simp [sendP, p0, pushP, lright, upF, busyP]
theorem packR_ok {kind : UInt8} {seq : Int} {t : List UInt8} (h : packOk kind seq t) : packR kind seq t = packB kind seq.toNat t := by
  unfold packR; rw [if_pos h]
theorem recv_data {p : Prt} {seq : Int} {t : List UInt8} (h : 0 ≤ seq ∧ seq ≤ 2147483647) : recvP p (packR 68 seq t) = if (acc p.low p.seen seq).2.2 = true then ({ p with low := (acc p.low p.seen seq).1, seen := (acc p.low p.seen seq).2.1 }, t, true, packR 65 seq [], 0) else (p, [], false, packR 65 seq [], 0) := by
  have hok : packOk 68 seq t := ⟨.inl rfl, h.1, h.2⟩
  unfold recvP
  rw [packR_ok hok, unpack_pack hok]
  simp
theorem recv_told {p : Prt} {seq : Int} (h : 0 ≤ seq ∧ seq ≤ 2147483647) : recvP p (packR 65 seq []) = ({ p with q := p.q.filter (keepF seq) }, [], false, [], 0) := by
  have hok : packOk 65 seq [] := ⟨.inr ⟨rfl, rfl⟩, h.1, h.2⟩
  unfold recvP
  rw [packR_ok hok, unpack_pack hok]
  simp
theorem packR_len {kind : UInt8} {seq : Int} {t : List UInt8} : (packR kind seq t).length ≤ 9 + t.length := by
  unfold packR
  split
  · rw [packB_len]; omega
  · simp

set_option maxHeartbeats 4000000 in
theorem awake_ret : RetT cfg 8 [] (bv true) := by
  have e1 : acc 0 [] 0 = (1, [], true) := acc_next (by omega) (by omega)
  have e2 : acc 1 [] 0 = (1, [], false) := by simp [acc]
  have hA := fun s k => send_call (p := p0) (v1 := .nl) (v2 := .nl) (.inr ⟨rfl, rfl⟩) (.inr ⟨rfl, rfl⟩) [97] (by simp [p0]) (by simp) s k
  have hln := packR_len (kind := 68) (seq := 0) (t := [97])
  have hln2 := packR_len (kind := 65) (seq := 0) (t := [])
  simp only [List.length_cons, List.length_nil] at hln hln2
  have hB := fun s k => recv_call (p := p0) (v1 := .nl) (v2 := .nl) (.inr ⟨rfl, rfl⟩) (.inr ⟨rfl, rfl⟩) (packR 68 0 [97]) (by simp [p0]) (by omega) (by simp [p0, I64']) (by simp [p0]) (by simp [p0]) s k
  have hC := fun s k => recv_call (p := ⟨0, [], 1, []⟩) (v1 := .t (fl [])) (v2 := .t (il [])) (.inl rfl) (.inl rfl) (packR 68 0 [97]) (by simp) (by omega) (by simp [I64']) (by simp) (by simp) s k
  have hD := fun s k => recv_call (p := ⟨1, [(0, [97])], 0, []⟩) (v1 := .t (fl [(0, [97])])) (v2 := .t (il [])) (.inl rfl) (.inl rfl) (packR 65 0 []) (by simp) (by omega) (by simp [I64']) (by simp) (by simp) s k
  have hE := fun s k => callEv_tr (C := cfg) (again0_ret 1 0 []) rfl rfl rfl s k
  rw [send0] at hA
  rw [recv_data (by omega)] at hB hC
  rw [recv_told (by omega)] at hD
  simp only [p0, e1] at hB
  simp only [e2] at hC
  generalize packR 68 0 [97] = k1 at *
  generalize packR 65 0 [] = k2 at *
  simp only [p0, sendV, recvV, prV, fl, il, iv, bv, List.map_nil, List.map_cons] at hA hB hC hD hE
  simp [keepF] at hA hB hC hD hE
  refine RetT.of ?_
  rw [runL_pf (fn := f8) rfl rfl]
  simp [hA, hB, hC, hD, hE, buildV, over]
end Go.Proofs.Ytccnadleegcobaa.Pv
