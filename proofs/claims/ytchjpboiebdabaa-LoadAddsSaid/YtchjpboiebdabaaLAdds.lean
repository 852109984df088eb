/- LoadAdds, reckoned. -/
import Derived.Test.YtchjpboiebdabaaPure1
import Derived.Test.YtchjpboiebdabaaLCalm
set_option linter.unusedVariables false
set_option linter.unusedSimpArgs false
namespace Go.Proofs.Ytchjpboiebdabaa.Pv
open Go Go.Pev

def U8 (n : Int) : Prop := 0 ≤ n ∧ n ≤ 255
def bl (l : List Int) : T := .l (l.map fun n => [.i .u8 n])
def noted : List Int → List Int → List Int
  | l, [] => l
  | l, x :: r => noted (note l (x % 10)) r
/-- What the eight counts are. -/
def W8 (l : List Int) : List V := [iv (cnt l 0), iv (cnt l 1), iv (cnt l 2), iv (cnt l 3), iv (cnt l 4), iv (cnt l 5), iv (cnt l 6), iv (cnt l 7)]
def Few (l : List Int) (i : Nat) : Prop := l.length ≤ 8 ∧ ∀ y, 0 ≤ cnt l y ∧ cnt l y ≤ i
theorem few_note {l : List Int} {i : Nat} (h : Few l i) (hi : i < 100) {x : Int} (h0 : 0 ≤ x) : Few (note l x) (i + 1) := by
  by_cases hx : x < 8
  · have hc := h.2 x
    refine ⟨?_, fun y => ?_⟩
    · unfold note
      rw [if_neg (by omega)]
      simp only [bump, pad, List.length_set, List.length_append, List.length_replicate]
      have := h.1
      omega
    · rw [cnt_note h0 hx (by omega) (by omega)]
      have := h.2 y
      split <;> omega
  · have : note l x = l := by unfold note; rw [if_pos (by omega)]
    rw [this]
    exact ⟨h.1, fun y => by have := h.2 y; omega⟩

theorem adds_loop (xs : List Int) (ty : Nat) (c0 : Nat) (r3 : Key × Ob) (h3 : r3.1.s = 3) (hx : ∀ n ∈ xs, U8 n) : ∀ (m i ck : Nat) (l : List Int), i + m = xs.length → i ≤ 100 → Few l i → ∃ ck' l', Few l' 100 ∧ ∃ b : Bool, ∃ j : Nat, evL cfg (.loop f4l0) ⟨[(0, .t (bl xs)), (3, .t (il l)), (4, .pt ⟨4, c0, 0⟩ 8 0 0), (5, iv i)], [(⟨4, c0, 0⟩, .box ty (W8 l)), r3], ck⟩ =
    some (.exit 0, ⟨[(0, .t (bl xs)), (3, .t (il l')), (4, .pt ⟨4, c0, 0⟩ 8 0 0), (5, iv j), (16, bv false)], [(⟨4, c0, 0⟩, .box ty (W8 l')), r3], ck'⟩) := by
  intro m
  induction m with
  | zero =>
    intro i ck l h h100 hf
    obtain rfl : i = xs.length := by omega
    refine ⟨ck + 1, l, ⟨hf.1, fun y => by have := hf.2 y; omega⟩, false, xs.length, ?_⟩
    rw [evL_loop]
    simp [f4l0e, bl]
  | succ m ih =>
    intro i ck l h h100 hf
    have hi : i < xs.length := by omega
    by_cases h1 : i < 100
    · have h1' : (i : Int) < 100 := by omega
      have hu := hx _ (List.getElem_mem hi)
      have hw : IntKind.i64.wrap ((i : Int) + 1) = (i : Int) + 1 := wrap_id (by omega) (by omega)
      have hm1 : xs[i].tmod 10 = xs[i] % 10 := Int.tmod_eq_emod_of_nonneg hu.1
      have hw2 : IntKind.i64.wrap (xs[i] % 10) = xs[i] % 10 := wrap_id (by omega) (by omega)
      have hn := fun s k => callEv_tr (C := cfg) (note_ret l (xs[i] % 10) (by have := hf.1; omega)) rfl rfl rfl s k
      obtain ⟨ck', l', hl', b, j, hc⟩ := ih (i + 1) (ck + if xs[i] % 10 < 8 then 6 else 5) (note l (xs[i] % 10)) (by omega) (by omega) (few_note hf h1 (by omega))
      refine ⟨ck', l', hl', b, j, ?_⟩
      rw [evL_loop_n (s1 := ⟨[(0, .t (bl xs)), (3, .t (il (note l (xs[i] % 10)))), (4, .pt ⟨4, c0, 0⟩ 8 0 0), (5, iv ((i + 1 : Nat) : Int))], [(⟨4, c0, 0⟩, .box ty (W8 (note l (xs[i] % 10)))), r3], ck + if xs[i] % 10 < 8 then 6 else 5⟩), hc]
      have hc8 := fun y => hf.2 y
      simp only [il, iv] at hn
      obtain ⟨x, hxe⟩ : ∃ x, x = xs[i] % 10 := ⟨_, rfl⟩
      rw [← hxe] at hm1 hw2 hn ⊢
      by_cases h8 : x < 8
      · have hW := fun y => cnt_note (l := l) (x := x) (by omega) h8 (by have := hc8 x; omega) (by have := hc8 x; omega) y
        have hw3 : IntKind.i64.wrap (cnt l x + 1) = cnt l x + 1 := by have := hc8 x; exact wrap_id (by omega) (by omega)
        have h0 : x = 0 ∨ x = 1 ∨ x = 2 ∨ x = 3 ∨ x = 4 ∨ x = 5 ∨ x = 6 ∨ x = 7 := by omega
        rcases h0 with h0 | h0 | h0 | h0 | h0 | h0 | h0 | h0 <;> rw [h0] at hm1 hw2 hn hW hw3 ⊢ <;> simp [f4l0e, bl, hi, h1', hm1, hw, hw2, hw3, hn, W8, hW, over]
      · have hno : note l x = l := by unfold note; rw [if_pos (by omega)]
        rw [hno] at hn ⊢
        simp [f4l0e, bl, hi, h1', hm1, hw, hw2, hn, h8]
    · obtain rfl : i = 100 := by omega
      have h1' : (100 : Int) < xs.length := by omega
      refine ⟨ck + 1, l, hf, false, 100, ?_⟩
      rw [evL_loop]
      simp [f4l0e, bl, h1']

theorem adds_check (l : List Int) (v3 : V) (hp : HP) (hv : ∀ (s : St) (k : Key) (x : Int), s.hp = hp → callEv cfg (runL cfg) 20 [v3, iv x] s k = some (iv (cnt l x), s.hp, s.ck)) : ∀ (m i ck : Nat), i + m = 8 → ∃ ck', evL cfg (.loop f4l1) ⟨[(3, v3), (35, .ag (W8 l)), (36, iv i)], hp, ck⟩ = some (.exit 2, ⟨[(3, v3), (35, .ag (W8 l)), (36, iv 8), (37, bv false)], hp, ck'⟩) := by
  intro m
  induction m with
  | zero =>
    intro i ck h
    obtain rfl : i = 8 := by omega
    refine ⟨ck + 1, ?_⟩
    rw [evL_loop]
    simp [f4l1e]
  | succ m ih =>
    intro i ck h
    have hi : i < 8 := by omega
    have hw : IntKind.i64.wrap ((i : Int) + 1) = (i : Int) + 1 := wrap_id (by omega) (by omega)
    obtain ⟨ck', hc⟩ := ih (i + 1) (ck + 4) (by omega)
    refine ⟨ck', ?_⟩
    rw [evL_loop_n (s1 := ⟨[(3, v3), (35, .ag (W8 l)), (36, iv ((i + 1 : Nat) : Int))], hp, ck + 4⟩), hc]
    have hc2 := fun s k => hv s k i
    simp only [iv] at hc2
    have h0 : i = 0 ∨ i = 1 ∨ i = 2 ∨ i = 3 ∨ i = 4 ∨ i = 5 ∨ i = 6 ∨ i = 7 := by omega
    rcases h0 with h0 | h0 | h0 | h0 | h0 | h0 | h0 | h0 <;> subst h0 <;> simp at hw hc2 <;> simp [f4l1e, W8, hw, hc2]

theorem ladds (xs : List Int) (hx : ∀ n ∈ xs, U8 n) : ∃ hp c, runL cfg 4 [.t (bl xs)] [] 0 = some (bv true, hp, c) := by
  have haq := fun hp => callQ_tr (C := cfg) awake_ret rfl hp
  have ha := fun s k => callEv_tr (C := cfg) awake_ret rfl rfl rfl s k
  simp only [bv] at haq ha
  rw [runL_pf (fn := f4) rfl rfl]
  cases xs with
  | nil =>
    have hex : evL cfg (.loop f4l0) ⟨[(0, .t (.l [])), (3, .ow ⟨3, 1, 0⟩ 1 0 0), (4, .pt ⟨4, 2, 0⟩ 8 0 0), (5, iv 0)], [(⟨4, 2, 0⟩, .box 36 (W8 [])), (⟨3, 1, 0⟩, .row 3 1 [] false)], 4⟩ =
      some (.exit 0, ⟨[(0, .t (.l [])), (3, .ow ⟨3, 1, 0⟩ 1 0 0), (4, .pt ⟨4, 2, 0⟩ 8 0 0), (5, iv 0), (16, bv false)], [(⟨4, 2, 0⟩, .box 36 (W8 [])), (⟨3, 1, 0⟩, .row 3 1 [] false)], 5⟩) := by
      rw [evL_loop]
      simp [f4l0e]
    obtain ⟨c, hc⟩ := adds_check [] (.ow ⟨3, 1, 0⟩ 1 0 0) [(⟨3, 1, 0⟩, .row 3 1 [] false)] (fun s k x hs => callEv_ow (C := cfg) (ty := 3) (sz := 1) (fz := false) (count_ret [] x) rfl rfl rfl rfl rfl s k (by rw [hs]; rfl)) 8 0 6 (by omega)
    simp [W8, cnt] at hex
    simp [W8, cnt] at hc
    simp [bl, hex, hc, ha, haq]
  | cons x r =>
    have hu := hx x List.mem_cons_self
    have hm1 : x.tmod 10 = x % 10 := Int.tmod_eq_emod_of_nonneg hu.1
    have hw2 : IntKind.i64.wrap (x % 10) = x % 10 := wrap_id (by omega) (by omega)
    obtain ⟨y, hy⟩ : ∃ y, y = x % 10 := ⟨_, rfl⟩
    have hn := callEv_owk (C := cfg) (k := ⟨3, 1, 0⟩) (ty := 3) (sz := 1) (fz := false) (note_ret [] y (by simp)) (n := 0) rfl rfl rfl rfl rfl
    have hf : Few (note [] y) 1 := few_note (i := 0) ⟨by simp, fun z => by simp [cnt]⟩ (by omega) (by omega)
    obtain ⟨ck', l', hl', b, j, hc⟩ := adds_loop (x :: r) 36 2 (⟨3, 1, 0⟩, .row 3 1 [] true) rfl hx r.length 1 (4 + if y < 8 then 6 else 5) (note [] y) (by simp; omega) (by omega) hf
    obtain ⟨c, hcc⟩ := adds_check l' (.t (il l')) [(⟨3, 1, 0⟩, .row 3 1 [] true)] (fun s k x hs => callEv_tr (C := cfg) (count_ret l' x) rfl rfl rfl s k) 8 0 (ck' + 1) (by omega)
    have hfirst : evL cfg (.loop f4l0) ⟨[(0, .t (bl (x :: r))), (3, .ow ⟨3, 1, 0⟩ 1 0 0), (4, .pt ⟨4, 2, 0⟩ 8 0 0), (5, iv 0)], [(⟨4, 2, 0⟩, .box 36 (W8 [])), (⟨3, 1, 0⟩, .row 3 1 [] false)], 4⟩ =
      evL cfg (.loop f4l0) ⟨[(0, .t (bl (x :: r))), (3, .t (il (note [] y))), (4, .pt ⟨4, 2, 0⟩ 8 0 0), (5, iv ((1 : Nat) : Int))], [(⟨4, 2, 0⟩, .box 36 (W8 (note [] y))), (⟨3, 1, 0⟩, .row 3 1 [] true)], 4 + if y < 8 then 6 else 5⟩ := by
      have hc0 : ∀ z, cnt [] z = 0 := fun z => by simp [cnt]
      have hw1 : IntKind.i64.wrap 1 = 1 := wrap_id (by omega) (by omega)
      have hlen : (0 : Int) < (r.length : Int) + 1 := by omega
      rw [← hy] at hm1 hw2
      refine evL_loop_n ?_
      simp only [il, iv] at hn
      by_cases h8 : y < 8
      · have hW := fun z => cnt_note (l := []) (x := y) (by omega) h8 (by rw [hc0]; omega) (by rw [hc0]; omega) z
        have h0 : y = 0 ∨ y = 1 ∨ y = 2 ∨ y = 3 ∨ y = 4 ∨ y = 5 ∨ y = 6 ∨ y = 7 := by omega
        rcases h0 with h0 | h0 | h0 | h0 | h0 | h0 | h0 | h0 <;> rw [h0] at hm1 hw2 hn hW ⊢ <;> simp at hn <;> simp [f4l0e, bl, hlen, hm1, hw1, hw2, hn, W8, hW, hc0, over, freezeAll, freeze1]
      · have hno : note [] y = [] := by unfold note; rw [if_pos (by omega)]
        rw [hno] at hn ⊢
        simp at hn
        simp [f4l0e, bl, hlen, hm1, hw1, hw2, hn, h8, freezeAll, freeze1]
    have hall := hfirst.trans hc
    have hlen : (l'.length : Int) ≤ 8 := by have := hl'.1; omega
    have hc0 : ∀ z, cnt [] z = 0 := fun z => by simp [cnt]
    simp [W8, hc0, bl] at hall
    simp [W8] at hcc
    simp [bl, hall, hcc, ha, haq, hlen, W8]

theorem u_u8 : PP.underlying 5 = some (.int .u8) := by kernel_rfl
theorem u_u8s : PP.underlying 35 = some (.slice 5) := by kernel_rfl
theorem u8_wf {n : Int} (h : (Lit.int .u8 n).wf = true) : U8 n := by
  simp only [Lit.wf, Bool.and_eq_true, decide_eq_true_eq] at h
  have h1 : IntKind.u8.min = 0 := by decide
  have h2 : IntKind.u8.max = 255 := by decide
  exact ⟨by omega, by omega⟩
theorem a_u8s {k : Nat} {x : V} (h : ArgFit PP (k + 2) 35 x) : ∃ l : List Int, x = .t (bl l) ∧ ∀ n ∈ l, U8 n := by
  obtain ⟨l, rfl, _, hw⟩ := argFit_slice (mk := fun n : Int => [.i .u8 n]) (Q := U8) u_u8s (fun c h => by
    obtain ⟨m, rfl, hw⟩ := fits_int u_u8 h
    exact ⟨m, rfl, u8_wf hw⟩) h
  exact ⟨l, rfl, hw⟩
theorem loadAdds_ev (xs : List V) (h : ArgsFit PP 8 [35] xs) : ∃ hp c, runL cfg 4 xs [] 0 = some (bv true, hp, c) := by
  obtain ⟨x1, r, rfl, h1, h⟩ := argsFit_cons h
  cases argsFit_nil h
  obtain ⟨l, rfl, hl⟩ := a_u8s h1
  exact ladds l hl
end Go.Proofs.Ytchjpboiebdabaa.Pv
