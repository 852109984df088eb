/- What the functions of the layer 21 tell: the lightest node. -/
import Derived.Test.YtchjpboiebdabaaSpec7
set_option linter.unusedVariables false
set_option linter.unusedSimpArgs false
namespace Go.Proofs.Ytchjpboiebdabaa.Pv
open Go Go.Pev

def lightStep (h : List (List Int)) (x best n : Int) : Int := if holds h x n then best else if best = 0 ∨ wt h n < wt h best then n else best
def lightest (h : List (List Int)) (x : Int) : Int := lightStep h x (lightStep h x (lightStep h x (lightStep h x 0 1) 2) 3) 4

theorem light_round (e : Int) (h : List (List Int)) (x best n : Int) (ty : Nat) (hh : h.length ≤ 1000000) (hr : ∀ r ∈ h, r.length ≤ 1000000) (hn : 1 ≤ n) (hn4 : n ≤ 4) (ck : Nat) : ∃ ck', evL cfg (.loop f40l0) ⟨[(1, iv x), (2, .pt ⟨2, 0, 0⟩ 2 0 0), (5, iv best), (6, iv n)], [(⟨2, 0, 0⟩, .box ty [iv e, .t (gl h)])], ck⟩ =
    evL cfg (.loop f40l0) ⟨[(1, iv x), (2, .pt ⟨2, 0, 0⟩ 2 0 0), (5, iv (lightStep h x best n)), (6, iv (n + 1))], [(⟨2, 0, 0⟩, .box ty [iv e, .t (gl h)])], ck'⟩ := by
  have hw : IntKind.i64.wrap (n + 1) = n + 1 := wrap_id (by omega) (by omega)
  have hc := fun s k => callEv_tr (C := cfg) (holds_ret e h x n hr) rfl rfl rfl s k
  have hq := fun hp => callQ_tr (C := cfg) (weight_ret e h n hh hr) rfl hp
  have hq2 := fun hp => callQ_tr (C := cfg) (weight_ret e h best hh hr) rfl hp
  simp only [il, iv, bv, gl] at hc hq hq2
  unfold lightStep
  by_cases h1 : holds h x n = true
  · rw [h1] at hc
    refine ⟨ck + 3, ?_⟩
    rw [evL_loop_n]
    simp [f40l0e, gl, hn4, hc, h1, hw]
  · have h1' : holds h x n = false := by simpa using h1
    rw [h1'] at hc
    by_cases h2 : best = 0
    · refine ⟨ck + 5, ?_⟩
      rw [evL_loop_n]
      simp [f40l0e, gl, hn4, hc, h1', h2, hw]
    · have h2b : (best == 0) = false := by simpa using h2
      by_cases h3 : wt h n < wt h best
      · refine ⟨ck + 5, ?_⟩
        rw [evL_loop_n]
        simp [f40l0e, gl, hn4, hc, h1', h2, h2b, hq, hq2, h3, hw]
      · refine ⟨ck + 4, ?_⟩
        rw [evL_loop_n]
        simp [f40l0e, gl, hn4, hc, h1', h2, h2b, hq, hq2, h3, hw]

theorem lightest_ret (e : Int) (h : List (List Int)) (x : Int) (hh : h.length ≤ 1000000) (hr : ∀ r ∈ h, r.length ≤ 1000000) : RetT cfg 40 [.ag [iv e, .t (gl h)], iv x] (iv (lightest h x)) := by
  refine RetT.of ?_
  rw [runL_pf (fn := f40) rfl rfl]
  obtain ⟨c1, h1⟩ := light_round e h x 0 1 25 hh hr (by omega) (by omega) 3
  obtain ⟨c2, h2⟩ := light_round e h x (lightStep h x 0 1) 2 25 hh hr (by omega) (by omega) c1
  obtain ⟨c3, h3⟩ := light_round e h x (lightStep h x (lightStep h x 0 1) 2) 3 25 hh hr (by omega) (by omega) c2
  obtain ⟨c4, h4⟩ := light_round e h x (lightStep h x (lightStep h x (lightStep h x 0 1) 2) 3) 4 25 hh hr (by omega) (by omega) c3
  have h5 : evL cfg (.loop f40l0) ⟨[(1, iv x), (2, .pt ⟨2, 0, 0⟩ 2 0 0), (5, iv (lightest h x)), (6, iv 5)], [(⟨2, 0, 0⟩, .box 25 [iv e, .t (gl h)])], c4⟩ =
    some (.exit 0, ⟨[(1, iv x), (2, .pt ⟨2, 0, 0⟩ 2 0 0), (5, iv (lightest h x)), (6, iv 5), (8, bv false)], [(⟨2, 0, 0⟩, .box 25 [iv e, .t (gl h)])], c4 + 1⟩) := by
    rw [evL_loop]
    simp [f40l0e]
  have h6 := h1.trans (h2.trans (h3.trans (h4.trans h5)))
  simp only [gl, iv] at h6
  simp [gl, h6]

/-- The lightest of those that do not hold it; 0: there is none. -/
def IsLight (h : List (List Int)) (x r : Int) : Prop := (r = 0 ∧ ∀ m, 1 ≤ m → m ≤ 4 → holds h x m = true) ∨ (1 ≤ r ∧ r ≤ 4 ∧ holds h x r = false ∧ ∀ m, 1 ≤ m → m ≤ 4 → holds h x m = false → wt h r < wt h m ∨ (wt h r = wt h m ∧ r ≤ m))

theorem IsLight.eq {h : List (List Int)} {x r s : Int} (a : IsLight h x r) (b : IsLight h x s) : r = s := by
  rcases a with ⟨rfl, a⟩ | ⟨a1, a2, a3, a4⟩ <;> rcases b with ⟨rfl, b⟩ | ⟨b1, b2, b3, b4⟩
  · rfl
  · rw [a s b1 b2] at b3; cases b3
  · rw [b r a1 a2] at a3; cases a3
  · have h1 := a4 s b1 b2 b3
    have h2 := b4 r a1 a2 a3
    omega

/-- Of the nodes below n. -/
def LightTo (h : List (List Int)) (x n r : Int) : Prop := (r = 0 ∧ ∀ m, 1 ≤ m → m < n → holds h x m = true) ∨ (1 ≤ r ∧ r < n ∧ holds h x r = false ∧ ∀ m, 1 ≤ m → m < n → holds h x m = false → wt h r < wt h m ∨ (wt h r = wt h m ∧ r ≤ m))

theorem lightStep_to {h : List (List Int)} {x n r : Int} (hn : 1 ≤ n) (a : LightTo h x n r) : LightTo h x (n + 1) (lightStep h x r n) := by
  unfold lightStep
  cases h1 : holds h x n with
  | true =>
    simp only [if_true]
    rcases a with ⟨rfl, a⟩ | ⟨a1, a2, a3, a4⟩
    · refine .inl ⟨rfl, fun m hm1 hm2 => ?_⟩
      by_cases e : m = n
      · rw [e]; exact h1
      · exact a m hm1 (by omega)
    · refine .inr ⟨a1, by omega, a3, fun m hm1 hm2 hm3 => ?_⟩
      by_cases e : m = n
      · rw [e, h1] at hm3; cases hm3
      · exact a4 m hm1 (by omega) hm3
  | false =>
    simp only [Bool.false_eq_true, if_false]
    rcases a with ⟨rfl, a⟩ | ⟨a1, a2, a3, a4⟩
    · rw [if_pos (.inl rfl)]
      refine .inr ⟨hn, by omega, h1, fun m hm1 hm2 hm3 => ?_⟩
      by_cases e : m = n
      · rw [e]; exact .inr ⟨rfl, Int.le_refl _⟩
      · rw [a m hm1 (by omega)] at hm3; cases hm3
    · by_cases hw : wt h n < wt h r
      · rw [if_pos (.inr hw)]
        refine .inr ⟨hn, by omega, h1, fun m hm1 hm2 hm3 => ?_⟩
        by_cases e : m = n
        · rw [e]; exact .inr ⟨rfl, Int.le_refl _⟩
        · have := a4 m hm1 (by omega) hm3
          omega
      · rw [if_neg (by omega)]
        refine .inr ⟨a1, by omega, a3, fun m hm1 hm2 hm3 => ?_⟩
        by_cases e : m = n
        · rw [e]; omega
        · exact a4 m hm1 (by omega) hm3

theorem lightest_is (h : List (List Int)) (x : Int) : IsLight h x (lightest h x) := by
  have h1 : LightTo h x 1 0 := .inl ⟨rfl, fun m h1 h2 => by omega⟩
  have h5 := lightStep_to (by omega) (lightStep_to (by omega) (lightStep_to (by omega) (lightStep_to (by omega) h1)))
  simp only [show ((1 : Int) + 1 + 1 + 1 + 1) = 5 by omega, show ((1 : Int) + 1 + 1 + 1) = 4 by omega, show ((1 : Int) + 1 + 1) = 3 by omega, show ((1 : Int) + 1) = 2 by omega] at h5
  rcases h5 with ⟨h6, h7⟩ | ⟨h6, h7, h8, h9⟩
  · exact .inl ⟨h6, fun m a b => h7 m a (by omega)⟩
  · exact .inr ⟨h6, by have h7' : lightest h x < 5 := h7; omega, h8, fun m a b => h9 m a (by omega)⟩
end Go.Proofs.Ytchjpboiebdabaa.Pv
