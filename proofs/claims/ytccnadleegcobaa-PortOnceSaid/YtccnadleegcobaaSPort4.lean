/- What port.Receive and port.Again tell. -/
import Derived.Test.YtccnadleegcobaaSPort3
set_option linter.unusedVariables false
set_option linter.unusedSimpArgs false
namespace Go.Proofs.Ytccnadleegcobaa.Pv
open Go Go.Pev

def recvP (p : Prt) (s : List UInt8) : Prt × List UInt8 × Bool × List UInt8 × Int :=
  if (unpackP s).2.2.2 ≠ 0 then (p, [], false, [], (unpackP s).2.2.2)
  else if (unpackP s).1 = 65 then ({ p with q := p.q.filter (keepF (unpackP s).2.1) }, [], false, [], 0)
  else if (acc p.low p.seen (unpackP s).2.1).2.2 = true then ({ p with low := (acc p.low p.seen (unpackP s).2.1).1, seen := (acc p.low p.seen (unpackP s).2.1).2.1 }, (unpackP s).2.2.1, true, packR 65 (unpackP s).2.1 [], 0)
  else (p, [], false, packR 65 (unpackP s).2.1 [], 0)
def recvV (r : Prt × List UInt8 × Bool × List UInt8 × Int) : V := .tu [prV r.1, .t (.s r.2.1), bv r.2.2.1, .t (.s r.2.2.2.1), iv r.2.2.2.2]

set_option maxHeartbeats 4000000 in
theorem recv_ret (p : Prt) (s : List UInt8) (hl : p.q.length ≤ 100000) (hs : s.length ≤ 100000) (hlow : I64' p.low) (hsl : p.seen.length ≤ 1000000) (hn : ∀ n ∈ p.seen, I64' n) : RetT cfg 12 [prV p, .t (.s s)] (recvV (recvP p s)) := by
  obtain ⟨next, q, low, seen⟩ := p
  simp only at hl hlow hsl hn
  have hu := fun st k => callEv_tr (C := cfg) (unpack_ret s hs) rfl rfl rfl st k
  unfold RetT prV recvP
  rw [runL_pf (fn := f12) rfl rfl]
  generalize unpackP s = u at *
  obtain ⟨k, n, t, e⟩ := u
  simp only [unpV] at hu
  simp at hu
  by_cases he : e = 0
  case neg =>
    have de : (e != 0) = true := by simp [bne, he]
    simp [hu, he, de, fl, over]
    refine ⟨_, _, ⟨rfl, rfl⟩, ?_⟩
    simp [recvV, prV, resOf, resOfs, resOf1, treesOf, treeOf, fl]
  subst he
  have ht := fun st k => callEv_tr (C := cfg) (told_ret next q n hl) rfl rfl rfl st k
  simp only [fl, iv] at ht
  have ek := k65 k
  by_cases hk : k = 65
  · subst hk
    simp [hu, ht, fl, over, (show ((65 : UInt8).toNat : Int) = 65 from rfl)]
    refine ⟨_, _, ⟨rfl, rfl⟩, ?_⟩
    simp [recvV, prV, resOf, resOfs, resOf1, treesOf, treeOf, fl]
  have dk : ((k.toNat : Int) == 65) = false := by rw [ek]; exact decide_eq_false hk
  have hpk := fun st kk => callEv_tr (C := cfg) (pack_ret 65 n [] (by simp)) rfl rfl rfl st kk
  have ha := fun st kk => callEv_tr (C := cfg) (accept_ret low seen n hlow hsl hn) rfl rfl rfl st kk
  simp only [iv] at hpk
  simp at hpk
  generalize acc low seen n = r at *
  obtain ⟨lo', se', ok⟩ := r
  simp only [accV, il, iv, bv] at ha
  generalize hkn : k.toNat = kn at *
  cases ok with
  | true =>
    simp [hu, hpk, ha, fl, il, over, dk, hk]
    refine ⟨_, _, ⟨rfl, rfl⟩, ?_⟩
    simp [recvV, prV, resOf, resOfs, resOf1, treesOf, treeOf, fl, il]
  | false =>
    simp [hu, hpk, ha, fl, il, over, dk, hk]
    refine ⟨_, _, ⟨rfl, rfl⟩, ?_⟩
    simp [recvV, prV, resOf, resOfs, resOf1, treesOf, treeOf, fl, il]
end Go.Proofs.Ytccnadleegcobaa.Pv
