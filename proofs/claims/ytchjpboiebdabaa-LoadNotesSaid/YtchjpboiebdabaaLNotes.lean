/- LoadNotes, reckoned. -/
import Derived.Test.YtchjpboiebdabaaSpec5
import Derived.Test.YtchjpboiebdabaaArgs1
set_option linter.unusedVariables false
set_option linter.unusedSimpArgs false
namespace Go.Proofs.Ytchjpboiebdabaa.Pv
open Go Go.Pev

theorem lnotes_loop (l0 : V) (x : Int) (nd m0 bx0 bx : V) (h0 : 0 ≤ x) (h8 : x < 8) : ∀ (k : Nat) (m : List Int) (c o ck : Nat) (z : Env), (z = [] ∨ z = [(38, bv true)]) → m.length ≤ 1000000 → k = x.toNat + 1 - m.length → ∃ c' o' ck', evL cfg (.loop f3l0) ⟨(0, l0) :: (1, iv x) :: (3, nd) :: (6, .pt ⟨6, 0, 0⟩ 2 0 0) :: (9, m0) :: (10, .ow ⟨24, c, o⟩ 1 0 m.length) :: z, [(⟨24, c, o⟩, .row 3 1 (cl m) false), (⟨6, 0, 0⟩, .box 25 [bx0, bx])], ck⟩ =
    some (.exit 0, ⟨[(0, l0), (1, iv x), (3, nd), (6, .pt ⟨6, 0, 0⟩ 2 0 0), (9, m0), (10, .ow ⟨24, c', o'⟩ 1 0 (m ++ List.replicate k 0).length), (42, bv false)], [(⟨24, c', o'⟩, .row 3 1 (cl (m ++ List.replicate k 0)) false), (⟨6, 0, 0⟩, .box 25 [bx0, bx])], ck'⟩) := by
  intro k
  induction k with
  | zero =>
    intro m c o ck z hz hm hk
    have h1 : ¬ (m.length : Int) ≤ x := by omega
    refine ⟨c, o, ck + 1, ?_⟩
    rw [evL_loop]
    rcases hz with rfl | rfl <;> simp [f3l0e, h1]
  | succ k ih =>
    intro m c o ck z hz hm hk
    have h1 : (m.length : Int) ≤ x := by omega
    obtain ⟨c', o', ck', hc⟩ := ih (m ++ [0]) (ck + 1) 2 (ck + 2) [] (.inl rfl) (by simp; omega) (by simp; omega)
    refine ⟨c', o', ck', ?_⟩
    rw [evL_loop_n (s1 := ⟨[(0, l0), (1, iv x), (3, nd), (6, .pt ⟨6, 0, 0⟩ 2 0 0), (9, m0), (10, .ow ⟨24, ck + 1, 2⟩ 1 0 (m ++ [0]).length)], [(⟨24, ck + 1, 2⟩, .row 3 1 (cl (m ++ [0])) false), (⟨6, 0, 0⟩, .box 25 [bx0, bx])], ck + 2⟩), hc]
    · simp [List.replicate_succ]
    · have h2 : (m.length + 1) * 8 ≤ 140737488355328 := by omega
      rcases hz with rfl | rfl <;> simp [f3l0e, h1, rowsOf, treesC, treesOf, treeOf, keysOfs, freezeAll, app, elsOf, cl, h2]

theorem lnotes_awake (l : List Int) (x e : Int) (h : List (List Int)) (node : Int) (hb : 60 < l.length ∨ small h = false) : ∃ hp c, runL cfg 3 [.t (il l), iv x, .ag [iv e, .t (gl h)], iv node] [] 0 = some (bv true, hp, c) := by
  have ha := fun s k => callEv_tr (C := cfg) awake_ret rfl rfl rfl s k
  have hs := fun s k => callEv_tr (C := cfg) (small_ret h) rfl rfl rfl s k
  simp only [gl, bv] at ha hs
  rw [runL_pf (fn := f3) rfl rfl]
  by_cases h60 : 60 < l.length
  · have h61 : (60 : Int) < l.length := by omega
    simp [h61, ha, gl]
  · have h61 : ¬ (60 : Int) < l.length := by omega
    have h2 : small h = false := by rcases hb with h | h; omega; exact h
    simp [h61, ha, hs, h2, gl]

set_option maxHeartbeats 8000000 in
theorem lnotes_main (l : List Int) (x e : Int) (h : List (List Int)) (node : Int) (hl : l.length ≤ 60) (hs0 : small h = true) : ∃ hp c, runL cfg 3 [.t (il l), iv x, .ag [iv e, .t (gl h)], iv node] [] 0 = some (bv true, hp, c) := by
  obtain ⟨hh, hr⟩ : h.length ≤ 30 ∧ ∀ r ∈ h, r.length ≤ 30 := by simpa [small] using hs0
  have hh2 : h.length ≤ 1000000 := by omega
  have hr2 : ∀ r ∈ h, r.length ≤ 1000000 := fun r hx => by have := hr r hx; omega
  have ha := fun hp => callQ_tr (C := cfg) awake_ret rfl hp
  have hs := fun s k => callEv_tr (C := cfg) (small_ret h) rfl rfl rfl s k
  have hn := fun s k => callEv_tr (C := cfg) (note_ret l x (by omega)) rfl rfl rfl s k
  have hrc := fun s k => callEv_tr (C := cfg) (rcount_ret l x (by omega)) rfl rfl rfl s k
  have hrcq := fun hp => callQ_tr (C := cfg) (rcount_ret l x (by omega)) rfl hp
  have hcq := fun hp => callQ_tr (C := cfg) (count_ret l x) rfl hp
  have hwq := fun hp => callQ_tr (C := cfg) (weight_ret e h node hh2 hr2) rfl hp
  have hrwq := fun hp => callQ_tr (C := cfg) (rweight_ret e h node hh2 hr2) rfl hp
  have hnl : (note l x).length ≤ 1000000 := by
    unfold note
    split
    · omega
    · simp [bump, pad]; omega
  have hq : ∀ (k : Key) (W : List Int) (rest : HP), callQ (runL cfg) 19 [.t (il (note l x)), .ow k 1 0 W.length] ((k, .row 3 1 (cl W) false) :: rest) = some (bv (decide (note l x = W))) := by
    intro k W rest
    refine callQ_t ?_ (same_ret (note l x) W hnl) (.inl rfl)
    have : (W.map fun n : Int => ([.i .i64 n] : List T)).take W.length = W.map fun n : Int => ([.i .i64 n] : List T) := List.take_of_length_le (by simp)
    simp [puresOf, pureOf, treeOf, HP.get, cl, this]
  simp only [gl, bv, il, iv] at ha hs hn hrc hrcq hcq hwq hrwq
  have h61 : ¬ (60 : Int) < l.length := by omega
  have hl3 : l.length * 8 ≤ 140737488355328 := by omega
  rw [runL_pf (fn := f3) rfl rfl]
  by_cases hc : x < 0 ∨ 8 ≤ x ∨ 2147483647 ≤ cnt l x
  · have hnote : note l x = l := by unfold note; rw [if_pos hc]
    rw [hnote] at hq hn
    have hq2 := hq ⟨24, 3, 2⟩ l
    simp only [gl, bv, il, iv, cl] at hq2 hn
    by_cases h0 : 0 ≤ x
    · by_cases h7 : x ≤ 7
      · have h9 : ¬ cnt l x < 2147483647 := by omega
        simp (config := { maxSteps := 1000000 }) [h61, hs, hs0, hn, hrc, hrcq, hcq, hwq, hrwq, ha, hq2, h0, h7, h9, gl, rowsOf, keysOfs, freezeAll, app, elsOf, treeOf, hl3]
      · simp (config := { maxSteps := 1000000 }) [h61, hs, hs0, hn, hrc, hrcq, hcq, hwq, hrwq, ha, hq2, h0, h7, gl, rowsOf, keysOfs, freezeAll, app, elsOf, treeOf, hl3]
    · simp (config := { maxSteps := 1000000 }) [h61, hs, hs0, hn, hrc, hrcq, hcq, hwq, hrwq, ha, hq2, h0, gl, rowsOf, keysOfs, freezeAll, app, elsOf, treeOf, hl3]
  · have hnote : note l x = bump (pad l (x.toNat + 1)) x.toNat := by unfold note; rw [if_neg hc]
    have h0 : 0 ≤ x := by omega
    have h7 : x ≤ 7 := by omega
    have h9 : cnt l x < 2147483647 := by omega
    obtain ⟨c', o', ck', hlp⟩ := lnotes_loop (.t (il l)) x (iv node) (.t (il (note l x))) (iv e) (.t (gl h)) h0 (by omega) (x.toNat + 1 - l.length) l 3 2 5 [(38, bv true)] (.inr rfl) (by omega) rfl
    have hpl : x.toNat < (pad l (x.toNat + 1)).length := by simp [pad]; omega
    have hx : x < ((pad l (x.toNat + 1)).length : Int) := by omega
    have hq2 := hq ⟨24, c', o'⟩ (bump (pad l (x.toNat + 1)) x.toNat)
    have hd : decide (note l x = bump (pad l (x.toNat + 1)) x.toNat) = true := by simp [hnote]
    rw [hd] at hq2
    simp only [show l ++ List.replicate (x.toNat + 1 - l.length) 0 = pad l (x.toNat + 1) from rfl] at hlp
    generalize note l x = M at hlp hq2 hn
    generalize pad l (x.toNat + 1) = m at hlp hpl hx hq2
    simp only [gl, bv, il, iv, cl] at hlp
    simp only [gl, bv, il, iv, cl, bump, List.length_set, List.map_set] at hq2
    simp [hpl] at hq2
    simp (config := { maxSteps := 1000000 }) [h61, hs, hs0, hn, hrc, hrcq, hcq, hwq, hrwq, ha, hq2, h0, h7, h9, gl, rowsOf, keysOfs, freezeAll, app, elsOf, treeOf, hl3, hlp, hx, hpl, treesC, treesOf, keysOf, over]

theorem loadNotes_ev (xs : List V) (h : ArgsFit PP 8 [22, 3, 25, 3] xs) : ∃ hp c, runL cfg 3 xs [] 0 = some (bv true, hp, c) := by
  obtain ⟨x1, r, rfl, h1, h⟩ := argsFit_cons h
  obtain ⟨x2, r, rfl, h2, h⟩ := argsFit_cons h
  obtain ⟨x3, r, rfl, h3, h⟩ := argsFit_cons h
  obtain ⟨x4, r, rfl, h4, h⟩ := argsFit_cons h
  cases argsFit_nil h
  obtain ⟨l, rfl, hl⟩ := a_ints h1
  obtain ⟨x, rfl, hx⟩ := a_int h2
  obtain ⟨e, m, rfl, he, hm⟩ := a_map h3
  obtain ⟨node, rfl, hn⟩ := a_int h4
  by_cases hb : 60 < l.length ∨ small m = false
  · exact lnotes_awake l x e m node hb
  · exact lnotes_main l x e m node (by omega) (by cases hs : small m with | true => rfl | false => exact absurd (.inr hs) hb)
end Go.Proofs.Ytchjpboiebdabaa.Pv
