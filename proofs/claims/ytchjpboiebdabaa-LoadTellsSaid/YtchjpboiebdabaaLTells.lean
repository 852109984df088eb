/- LoadTells, reckoned. -/
import Derived.Test.YtchjpboiebdabaaPure1
import Derived.Test.YtchjpboiebdabaaArgs1
set_option linter.unusedVariables false
set_option linter.unusedSimpArgs false
namespace Go.Proofs.Ytchjpboiebdabaa.Pv
open Go Go.Pev

set_option maxHeartbeats 4000000 in
theorem ltells (l : List Int) (e : Int) (h : List (List Int)) (b : Int) : ∃ hp c, runL cfg 7 [.t (il l), .ag [iv e, .t (gl h)], iv b] [] 0 = some (bv true, hp, c) := by
  have ha := fun s k => callEv_tr (C := cfg) awake_ret rfl rfl rfl s k
  have haq := fun hp => callQ_tr (C := cfg) awake_ret rfl hp
  have hs := fun s k => callEv_tr (C := cfg) (small_ret h) rfl rfl rfl s k
  simp only [gl, bv] at ha haq hs
  rw [runL_pf (fn := f7) rfl rfl]
  by_cases h60 : (60 : Int) < l.length
  · simp [h60, ha, gl]
  · by_cases h2 : small h = true
    · obtain ⟨hh, hr⟩ := small_iff.1 h2
      have hh2 : h.length ≤ 1000000 := by omega
      have hr2 : ∀ r ∈ h, r.length ≤ 1000000 := fun r hx => by have := hr r hx; omega
      have hl2 : l.length ≤ 1000000 := by omega
      obtain ⟨x, n, ok, hH⟩ := hotR_tu l e h b
      obtain ⟨y, m, is, hC⟩ := coldR_tu l e h b
      have h1 := fun s k => callEv_tr (C := cfg) (hot_ret l e h b hh2 hr2) rfl rfl rfl s k
      have h3 := fun s k => callEv_tr (C := cfg) (cold_ret l e h b hh2 hr2) rfl rfl rfl s k
      have h4 := fun s k => callEv_tr (C := cfg) (rHot_ret l e h b hl2 hh2 hr2) rfl rfl rfl s k
      have h5 := fun s k => callEv_tr (C := cfg) (rCold_ret l e h b hl2 hh2 hr2) rfl rfl rfl s k
      rw [h2] at hs
      simp only [hH, hC, tu3, gl, bv, il, iv] at h1 h3 h4 h5
      simp [h60, ha, haq, hs, h1, h3, h4, h5, gl, over]
    · have h2' : small h = false := by simpa using h2
      simp [h60, ha, hs, h2', gl]

theorem loadTells_ev (xs : List V) (h : ArgsFit PP 8 [22, 25, 3] xs) : ∃ hp c, runL cfg 7 xs [] 0 = some (bv true, hp, c) := by
  obtain ⟨x1, r, rfl, h1, h⟩ := argsFit_cons h
  obtain ⟨x2, r, rfl, h2, h⟩ := argsFit_cons h
  obtain ⟨x3, r, rfl, h3, h⟩ := argsFit_cons h
  cases argsFit_nil h
  obtain ⟨l, rfl, hl⟩ := a_ints h1
  obtain ⟨e, m, rfl, he, hm⟩ := a_map h2
  obtain ⟨b, rfl, hb⟩ := a_int h3
  exact ltells l e m b
end Go.Proofs.Ytchjpboiebdabaa.Pv
