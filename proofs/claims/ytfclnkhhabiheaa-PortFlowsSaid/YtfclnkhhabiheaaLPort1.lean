/- PortPacks, reckoned. -/
import Derived.Test.YtfclnkhhabiheaaSPort5
import Derived.Test.YtfclnkhhabiheaaArgsP
set_option linter.unusedVariables false
set_option linter.unusedSimpArgs false
set_option maxRecDepth 100000
namespace Go.Proofs.Ytfclnkhhabiheaa.Pv
open Go Go.Pev

set_option maxHeartbeats 4000000 in
theorem packs (kind : UInt8) (seq : Int) (text s : List UInt8) : ∃ hp c, runL cfg 3 [.t (.i .u8 kind.toNat), iv seq, .t (.s text), .t (.s s)] [] 0 = some (bv true, hp, c) := by
  have ha := fun s k => callEv_tr (C := cfg) awake_ret rfl rfl rfl s k
  have haq := fun hp => callQ_tr (C := cfg) awake_ret rfl hp
  simp only [bv] at ha haq
  rw [runL_pf (fn := f3) rfl rfl]
  by_cases h1 : text.length ≤ 200
  case neg =>
    have d1 : decide ((200 : Int) < (text.length : Int)) = true := decide_eq_true (by omega)
    simp [ha, d1]
  have d1 : decide ((200 : Int) < (text.length : Int)) = false := decide_eq_false (by omega)
  by_cases h2 : s.length ≤ 200
  case neg =>
    have d2 : decide ((200 : Int) < (s.length : Int)) = true := decide_eq_true (by omega)
    simp [ha, d1, d2]
  have d2 : decide ((200 : Int) < (s.length : Int)) = false := decide_eq_false (by omega)
  have hp := fun st k => callEv_tr (C := cfg) (pack_ret kind seq text (by omega)) rfl rfl rfl st k
  have hr := fun st k => callEv_tr (C := cfg) (rpack_ret kind seq text (by omega)) rfl rfl rfl st k
  have hu := fun st k => callEv_tr (C := cfg) (unpack_ret s (by omega)) rfl rfl rfl st k
  have hv := fun st k => callEv_tr (C := cfg) (runpack_ret s (by omega)) rfl rfl rfl st k
  generalize unpackP s = u at *
  obtain ⟨k, n, t, e⟩ := u
  generalize packR kind seq text = pk at *
  simp only [unpV] at hu hv
  simp at hu hv
  generalize kind.toNat = kn at *
  generalize k.toNat = kk at *
  by_cases hok : packOk kind seq text
  · rw [if_pos hok] at hp
    rw [decide_eq_true hok] at hr
    simp only [iv, bv] at hp hr
    simp [ha, haq, d1, d2, hp, hr, hu, hv]
  · rw [if_neg hok] at hp
    rw [decide_eq_false hok] at hr
    simp only [iv, bv] at hp hr
    simp [ha, haq, d1, d2, hp, hr, hu, hv]

theorem portPacks_ev (xs : List V) (h : ArgsFit PP 8 [5, 3, 9, 9] xs) : ∃ hp c, runL cfg 3 xs [] 0 = some (bv true, hp, c) := by
  obtain ⟨x1, r, rfl, h1, h⟩ := argsFit_cons h
  obtain ⟨x2, r, rfl, h2, h⟩ := argsFit_cons h
  obtain ⟨x3, r, rfl, h3, h⟩ := argsFit_cons h
  obtain ⟨x4, r, rfl, h4, h⟩ := argsFit_cons h
  cases argsFit_nil h
  obtain ⟨b, rfl, hb⟩ := a_u8 h1
  obtain ⟨n, rfl, _⟩ := a_int h2
  obtain ⟨t, rfl, _⟩ := a_str h3
  obtain ⟨s, rfl, _⟩ := a_str h4
  have := packs (UInt8.ofNat b) n t s
  rwa [show (UInt8.ofNat b).toNat = b by simp; omega] at this
end Go.Proofs.Ytfclnkhhabiheaa.Pv
