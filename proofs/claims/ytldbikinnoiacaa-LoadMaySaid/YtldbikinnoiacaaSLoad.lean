/- What load's functions tell. -/
import Derived.Test.YtldbikinnoiacaaSSmall
import Derived.Test.YtldbikinnoiacaaSClone
import Derived.Test.YtldbikinnoiacaaPMap2
set_option linter.unusedVariables false
set_option linter.unusedSimpArgs false
set_option maxRecDepth 10000
namespace Go.Proofs.Ytldbikinnoiacaa.Pv
open Go Go.Pev

/-- How often an expert was asked. -/
def cnt (l : List Int) (x : Int) : Int := if 0 ≤ x ∧ x < l.length then l.getD x.toNat 0 else 0

theorem count_ret (l : List Int) (x : Int) : RetT cfg 12 [.t (il l), iv x] (iv (cnt l x)) := by
  refine RetT.of ?_
  rw [runL_pf (fn := f12) rfl rfl]
  unfold cnt
  by_cases h0 : x < 0
  · have h0' : ¬ (0 ≤ x) := by omega
    simp [h0, h0']
  · have h0' : 0 ≤ x := by omega
    by_cases h1 : (l.length : Int) ≤ x
    · have h2 : ¬ x < l.length := by omega
      simp [h0, h0', h1, h2]
    · have h2 : x < l.length := by omega
      have h3 : x.toNat < l.length := by omega
      simp [h0, h0', h1, h2, h3]


def pad (m : List Int) (n : Nat) : List Int := m ++ List.replicate (n - m.length) 0
def bump (m : List Int) (x : Nat) : List Int := m.set x (IntKind.i64.wrap (m.getD x 0 + 1))
def note (l : List Int) (x : Int) : List Int := if x < 0 ∨ 8 ≤ x ∨ 2147483647 ≤ cnt l x then l else bump (pad l (x.toNat + 1)) x.toNat

theorem note_loop (x : Int) (h0 : 0 ≤ x) (h8 : x < 8) : ∀ (k : Nat) (m : List Int) (c o ck : Nat) (z : Env), (z = [] ∨ z = [(19, bv false)]) → m.length ≤ 1000000 → k = x.toNat + 1 - m.length → ∃ c' o' ck', evL cfg (.loop f11l0) ⟨(1, iv x) :: (5, .ow ⟨7, c, o⟩ 1 0 m.length) :: z, [(⟨7, c, o⟩, .row 3 1 (cl m) false)], ck⟩ =
    some (.exit 0, ⟨[(1, iv x), (5, .ow ⟨7, c', o'⟩ 1 0 (m ++ List.replicate k 0).length), (24, bv false)], [(⟨7, c', o'⟩, .row 3 1 (cl (m ++ List.replicate k 0)) false)], ck'⟩) := by
  intro k
  induction k with
  | zero =>
    intro m c o ck z hz hm hk
    have h1 : ¬ (m.length : Int) ≤ x := by omega
    refine ⟨c, o, ck + 1, ?_⟩
    rw [evL_loop]
    rcases hz with rfl | rfl <;> simp [f11l0e, h1]
  | succ k ih =>
    intro m c o ck z hz hm hk
    have h1 : (m.length : Int) ≤ x := by omega
    obtain ⟨c', o', ck', hc⟩ := ih (m ++ [0]) (ck + 1) 2 (ck + 2) [] (.inl rfl) (by simp; omega) (by simp; omega)
    refine ⟨c', o', ck', ?_⟩
    rw [evL_loop_n (s1 := ⟨[(1, iv x), (5, .ow ⟨7, ck + 1, 2⟩ 1 0 (m ++ [0]).length)], [(⟨7, ck + 1, 2⟩, .row 3 1 (cl (m ++ [0])) false)], ck + 2⟩), hc]
    · simp [List.replicate_succ]
    · have h2 : (m.length + 1) * 8 ≤ 140737488355328 := by omega
      rcases hz with rfl | rfl <;> simp [f11l0e, h1, rowsOf, treesC, treesOf, treeOf, keysOfs, freezeAll, app, elsOf, cl, h2]

theorem note_reto (l : List Int) (x : Int) (hl : l.length ≤ 1000000) : RetO cfg 11 [.t (il l), iv x] 3 1 (cl (note l x)) := by
  have hcl := fun s k => callEv_tro (C := cfg) (clone_ret (cl l) (cl_one l) (by simp [cl]; omega)) rfl rfl rfl s k
  have hct := fun s k => callEv_tr (C := cfg) (count_ret l x) rfl rfl rfl s k
  simp only [cl, il, iv] at hcl hct
  by_cases hc : x < 0 ∨ 8 ≤ x ∨ 2147483647 ≤ cnt l x
  · have hn : note l x = l := by unfold note; rw [if_pos hc]
    rw [hn]
    refine ⟨⟨7, 1, 1⟩, [(⟨7, 1, 1⟩, .row 3 1 (cl l) false)], 4, ?_, by simp [HP.get]⟩
    · rw [runL_pf (fn := f11) rfl rfl]
      by_cases h0 : x < 0
      · simp [hcl, h0, cl]
      · by_cases h8 : 8 ≤ x
        · simp [hcl, h0, h8, cl]
        · have h9 : 2147483647 ≤ cnt l x := by omega
          simp [hcl, hct, h0, h8, h9, cl]
  · have h0 : ¬ x < 0 := by omega
    have h8 : ¬ 8 ≤ x := by omega
    have h9 : ¬ 2147483647 ≤ cnt l x := by omega
    obtain ⟨c', o', ck', hlp⟩ := note_loop x (by omega) (by omega) (x.toNat + 1 - l.length) l 1 1 3 [(19, bv false)] (.inr rfl) hl rfl
    have hpl : x.toNat < (pad l (x.toNat + 1)).length := by simp [pad]; omega
    have hx : x < ((pad l (x.toNat + 1)).length : Int) := by omega
    have hx0 : 0 ≤ x := by omega
    have hn : note l x = bump (pad l (x.toNat + 1)) x.toNat := by unfold note; rw [if_neg hc]
    rw [hn]
    refine ⟨⟨7, c', o'⟩, [(⟨7, c', o'⟩, .row 3 1 (cl (bump (pad l (x.toNat + 1)) x.toNat)) false)], ck' + 2, ?_, by simp [HP.get]⟩
    · rw [runL_pf (fn := f11) rfl rfl]
      simp only [show l ++ List.replicate (x.toNat + 1 - l.length) 0 = pad l (x.toNat + 1) from rfl] at hlp
      generalize pad l (x.toNat + 1) = m at hlp hpl hx ⊢
      simp [cl] at hlp
      simp [hcl, hct, h0, h8, h9, hlp, hx, hx0, hpl, cl, bump, treesC, treesOf, treeOf, keysOf, freezeAll, over, List.map_set]

theorem note_ret (l : List Int) (x : Int) (hl : l.length ≤ 1000000) : RetT cfg 11 [.t (il l), iv x] (.t (il (note l x))) := (note_reto l x hl).tree

theorem countP_at {h : List (List Int)} {i : Nat} (p : List Int → Bool) (hi : i < h.length) : (h.drop i).countP p = (h.drop (i + 1)).countP p + (if p h[i] then 1 else 0) := by
  rw [List.drop_eq_getElem_cons hi, List.countP_cons]

def wt (h : List (List Int)) (node : Int) : Nat := if 1 ≤ node ∧ node ≤ 4 then h.countP (fun r => r.contains node) else 0

theorem weight_loop (h : List (List Int)) (node : Int) (hh : h.length ≤ 1000000) (hr : ∀ r ∈ h, r.length ≤ 1000000) : ∀ (k i n ck : Nat), i + k = h.length → n ≤ i → ∃ c, evL cfg (.loop f9l0) ⟨[(1, iv node), (5, iv n), (9, .t (gl h)), (10, iv h.length), (11, iv i)], [], ck⟩ =
    some (.exit 0, ⟨[(1, iv node), (5, iv ((n + wt (h.drop i) node : Nat) : Int)), (9, .t (gl h)), (10, iv h.length), (11, iv h.length), (12, bv false)], [], c⟩) := by
  intro k
  induction k with
  | zero =>
    intro i n ck hk hn
    obtain rfl : i = h.length := by omega
    refine ⟨ck + 1, ?_⟩
    rw [evL_loop]
    simp [f9l0e, gl, wt]
  | succ k ih =>
    intro i n ck hk hn
    have hi : i < h.length := by omega
    have hw : IntKind.i64.wrap ((i : Int) + 1) = (i : Int) + 1 := wrap_id (by omega) (by omega)
    have hw2 : IntKind.i64.wrap ((n : Int) + 1) = (n : Int) + 1 := wrap_id (by omega) (by omega)
    have hc := fun s k => callEv_tr (C := cfg) (contains_ret h[i] node (hr _ (List.getElem_mem hi))) rfl rfl rfl s k
    simp only [il, iv, bv] at hc
    by_cases hn1 : 1 ≤ node ∧ node ≤ 4
    · by_cases hx : node ∈ h[i]
      · obtain ⟨c, hcc⟩ := ih (i + 1) (n + 1) (ck + 5) (by omega) (by omega)
        refine ⟨c, ?_⟩
        have h1 : wt (h.drop i) node = wt (h.drop (i + 1)) node + 1 := by
          simp only [wt, hn1, and_self, if_true]
          rw [countP_at _ hi]
          simp [hx]
        rw [evL_loop_n (s1 := ⟨[(1, iv node), (5, iv ((n + 1 : Nat) : Int)), (9, .t (gl h)), (10, iv h.length), (11, iv ((i + 1 : Nat) : Int))], [], ck + 5⟩), hcc]
        · rw [h1]
          have : n + 1 + wt (h.drop (i + 1)) node = n + (wt (h.drop (i + 1)) node + 1) := by omega
          rw [this]
        · simp [f9l0e, gl, hi, hw, hw2, hc, hn1, hx]
      · obtain ⟨c, hcc⟩ := ih (i + 1) n (ck + 4) (by omega) (by omega)
        refine ⟨c, ?_⟩
        have h1 : wt (h.drop i) node = wt (h.drop (i + 1)) node := by
          simp only [wt, hn1, and_self, if_true]
          rw [countP_at _ hi]
          simp [hx]
        rw [evL_loop_n (s1 := ⟨[(1, iv node), (5, iv n), (9, .t (gl h)), (10, iv h.length), (11, iv ((i + 1 : Nat) : Int))], [], ck + 4⟩), hcc, h1]
        simp [f9l0e, gl, hi, hw, hw2, hc, hn1, hx]
    · obtain ⟨c, hcc⟩ := ih (i + 1) n (ck + 4) (by omega) (by omega)
      refine ⟨c, ?_⟩
      have h1 : ∀ g, wt g node = 0 := by intro g; simp only [wt, hn1, if_false]
      rw [evL_loop_n (s1 := ⟨[(1, iv node), (5, iv n), (9, .t (gl h)), (10, iv h.length), (11, iv ((i + 1 : Nat) : Int))], [], ck + 4⟩), hcc, h1, h1]
      by_cases ha : 1 ≤ node
      · have hb : ¬ node ≤ 4 := fun h => hn1 ⟨ha, h⟩
        simp [f9l0e, gl, hi, hw, hw2, hc, ha, hb]
      · simp [f9l0e, gl, hi, hw, hw2, hc, ha]

theorem weight_ret (e : Int) (h : List (List Int)) (node : Int) (hh : h.length ≤ 1000000) (hr : ∀ r ∈ h, r.length ≤ 1000000) : RetT cfg 9 [.ag [iv e, .t (gl h)], iv node] (iv (wt h node)) := by
  obtain ⟨c, hc⟩ := weight_loop h node hh hr h.length 0 0 3 (by omega) (by omega)
  refine RetT.of ?_
  rw [runL_pf (fn := f9) rfl rfl]
  simp [gl] at hc
  simp [gl, hc]

set_option maxHeartbeats 1000000 in
theorem awake_ret : RetT cfg 5 [] (bv true) := by
  have h : (run cfg 300 5 [] [] 0).map (·.1) = some (bv true) := by kernel_rfl
  cases hr : run cfg 300 5 [] [] 0 with
  | none => rw [hr] at h; cases h
  | some r =>
    obtain ⟨v, hp, c⟩ := r
    rw [hr] at h
    cases h
    exact RetT.of ⟨hp, c, (runL_iff _).2 ⟨300, hr⟩⟩

def lmay (e : Int) (h : List (List Int)) (b : Int) : Bool := right e h && decide (1 ≤ b ∧ b ≤ 2147483647)

theorem lmay_ret (e : Int) (h : List (List Int)) (b : Int) (hh : h.length ≤ 1000000) (hr : ∀ r ∈ h, r.length ≤ 1000000) : RetT cfg 13 [.ag [iv e, .t (gl h)], iv b] (bv (lmay e h b)) := by
  refine RetT.of ?_
  rw [runL_pf (fn := f13) rfl rfl]
  have hc := fun s k => callEv_tr (C := cfg) (pright_ret e h hh hr) rfl rfl rfl s k
  simp only [il, iv, bv, gl] at hc
  by_cases h0 : right e h = true
  · rw [h0] at hc
    by_cases h1 : 1 ≤ b <;> by_cases h2 : b ≤ 2147483647 <;> simp [gl, lmay, h0, h1, h2, hc]
  · have h0' : right e h = false := by simpa using h0
    rw [h0'] at hc
    simp [gl, lmay, h0', hc]


def lightStep (h : List (List Int)) (x best n : Int) : Int := if holds h x n then best else if best = 0 ∨ wt h n < wt h best then n else best
def lightest (h : List (List Int)) (x : Int) : Int := lightStep h x (lightStep h x (lightStep h x (lightStep h x 0 1) 2) 3) 4

theorem light_round (e : Int) (h : List (List Int)) (x best n : Int) (ty : Nat) (hh : h.length ≤ 1000000) (hr : ∀ r ∈ h, r.length ≤ 1000000) (hn : 1 ≤ n) (hn4 : n ≤ 4) (ck : Nat) : ∃ ck', evL cfg (.loop f14l0) ⟨[(1, iv x), (2, .pt ⟨2, 0, 0⟩ 2 0 0), (5, iv best), (6, iv n)], [(⟨2, 0, 0⟩, .box ty [iv e, .t (gl h)])], ck⟩ =
    evL cfg (.loop f14l0) ⟨[(1, iv x), (2, .pt ⟨2, 0, 0⟩ 2 0 0), (5, iv (lightStep h x best n)), (6, iv (n + 1))], [(⟨2, 0, 0⟩, .box ty [iv e, .t (gl h)])], ck'⟩ := by
  have hw : IntKind.i64.wrap (n + 1) = n + 1 := wrap_id (by omega) (by omega)
  have hc := fun s k => callEv_tr (C := cfg) (holds_ret e h x n hr) rfl rfl rfl s k
  have hq := fun hp => callQ_tr (C := cfg) (weight_ret e h n hh hr) rfl hp
  have hq2 := fun hp => callQ_tr (C := cfg) (weight_ret e h best hh hr) rfl hp
  simp only [il, iv, bv, gl] at hc hq hq2
  unfold lightStep
  by_cases h1 : holds h x n = true
  · rw [h1] at hc
    refine ⟨ck + 3, ?_⟩
    rw [evL_loop_n]
    simp [f14l0e, gl, hn4, hc, h1, hw]
  · have h1' : holds h x n = false := by simpa using h1
    rw [h1'] at hc
    by_cases h2 : best = 0
    · refine ⟨ck + 5, ?_⟩
      rw [evL_loop_n]
      simp [f14l0e, gl, hn4, hc, h1', h2, hw]
    · have h2b : (best == 0) = false := by simpa using h2
      by_cases h3 : wt h n < wt h best
      · refine ⟨ck + 5, ?_⟩
        rw [evL_loop_n]
        simp [f14l0e, gl, hn4, hc, h1', h2, h2b, hq, hq2, h3, hw]
      · refine ⟨ck + 4, ?_⟩
        rw [evL_loop_n]
        simp [f14l0e, gl, hn4, hc, h1', h2, h2b, hq, hq2, h3, hw]

theorem lightest_ret (e : Int) (h : List (List Int)) (x : Int) (hh : h.length ≤ 1000000) (hr : ∀ r ∈ h, r.length ≤ 1000000) : RetT cfg 14 [.ag [iv e, .t (gl h)], iv x] (iv (lightest h x)) := by
  refine RetT.of ?_
  rw [runL_pf (fn := f14) rfl rfl]
  obtain ⟨c1, h1⟩ := light_round e h x 0 1 25 hh hr (by omega) (by omega) 3
  obtain ⟨c2, h2⟩ := light_round e h x (lightStep h x 0 1) 2 25 hh hr (by omega) (by omega) c1
  obtain ⟨c3, h3⟩ := light_round e h x (lightStep h x (lightStep h x 0 1) 2) 3 25 hh hr (by omega) (by omega) c2
  obtain ⟨c4, h4⟩ := light_round e h x (lightStep h x (lightStep h x (lightStep h x 0 1) 2) 3) 4 25 hh hr (by omega) (by omega) c3
  have h5 : evL cfg (.loop f14l0) ⟨[(1, iv x), (2, .pt ⟨2, 0, 0⟩ 2 0 0), (5, iv (lightest h x)), (6, iv 5)], [(⟨2, 0, 0⟩, .box 25 [iv e, .t (gl h)])], c4⟩ =
    some (.exit 0, ⟨[(1, iv x), (2, .pt ⟨2, 0, 0⟩ 2 0 0), (5, iv (lightest h x)), (6, iv 5), (8, bv false)], [(⟨2, 0, 0⟩, .box 25 [iv e, .t (gl h)])], c4 + 1⟩) := by
    rw [evL_loop]
    simp [f14l0e]
  have h6 := h1.trans (h2.trans (h3.trans (h4.trans h5)))
  simp only [gl, iv] at h6
  simp [gl, h6]

/-- The lightest of those that do not hold it; 0: there is none. -/
def IsLight (h : List (List Int)) (x r : Int) : Prop := (r = 0 ∧ ∀ m, 1 ≤ m → m ≤ 4 → holds h x m = true) ∨ (1 ≤ r ∧ r ≤ 4 ∧ holds h x r = false ∧ ∀ m, 1 ≤ m → m ≤ 4 → holds h x m = false → wt h r < wt h m ∨ (wt h r = wt h m ∧ r ≤ m))

theorem IsLight.eq {h : List (List Int)} {x r s : Int} (a : IsLight h x r) (b : IsLight h x s) : r = s := by
  rcases a with ⟨rfl, a⟩ | ⟨a1, a2, a3, a4⟩ <;> rcases b with ⟨rfl, b⟩ | ⟨b1, b2, b3, b4⟩
  · rfl
  · rw [a s b1 b2] at b3; cases b3
  · rw [b r a1 a2] at a3; cases a3
  · have h1 := a4 s b1 b2 b3
    have h2 := b4 r a1 a2 a3
    omega

/-- Of the nodes below n. -/
def LightTo (h : List (List Int)) (x n r : Int) : Prop := (r = 0 ∧ ∀ m, 1 ≤ m → m < n → holds h x m = true) ∨ (1 ≤ r ∧ r < n ∧ holds h x r = false ∧ ∀ m, 1 ≤ m → m < n → holds h x m = false → wt h r < wt h m ∨ (wt h r = wt h m ∧ r ≤ m))

theorem lightStep_to {h : List (List Int)} {x n r : Int} (hn : 1 ≤ n) (a : LightTo h x n r) : LightTo h x (n + 1) (lightStep h x r n) := by
  unfold lightStep
  cases h1 : holds h x n with
  | true =>
    simp only [if_true]
    rcases a with ⟨rfl, a⟩ | ⟨a1, a2, a3, a4⟩
    · refine .inl ⟨rfl, fun m hm1 hm2 => ?_⟩
      by_cases e : m = n
      · rw [e]; exact h1
      · exact a m hm1 (by omega)
    · refine .inr ⟨a1, by omega, a3, fun m hm1 hm2 hm3 => ?_⟩
      by_cases e : m = n
      · rw [e, h1] at hm3; cases hm3
      · exact a4 m hm1 (by omega) hm3
  | false =>
    simp only [Bool.false_eq_true, if_false]
    rcases a with ⟨rfl, a⟩ | ⟨a1, a2, a3, a4⟩
    · rw [if_pos (.inl rfl)]
      refine .inr ⟨hn, by omega, h1, fun m hm1 hm2 hm3 => ?_⟩
      by_cases e : m = n
      · rw [e]; exact .inr ⟨rfl, Int.le_refl _⟩
      · rw [a m hm1 (by omega)] at hm3; cases hm3
    · by_cases hw : wt h n < wt h r
      · rw [if_pos (.inr hw)]
        refine .inr ⟨hn, by omega, h1, fun m hm1 hm2 hm3 => ?_⟩
        by_cases e : m = n
        · rw [e]; exact .inr ⟨rfl, Int.le_refl _⟩
        · have := a4 m hm1 (by omega) hm3
          omega
      · rw [if_neg (by omega)]
        refine .inr ⟨a1, by omega, a3, fun m hm1 hm2 hm3 => ?_⟩
        by_cases e : m = n
        · rw [e]; omega
        · exact a4 m hm1 (by omega) hm3

theorem lightest_is (h : List (List Int)) (x : Int) : IsLight h x (lightest h x) := by
  have h1 : LightTo h x 1 0 := .inl ⟨rfl, fun m h1 h2 => by omega⟩
  have h5 := lightStep_to (by omega) (lightStep_to (by omega) (lightStep_to (by omega) (lightStep_to (by omega) h1)))
  simp only [show ((1 : Int) + 1 + 1 + 1 + 1) = 5 by omega, show ((1 : Int) + 1 + 1 + 1) = 4 by omega, show ((1 : Int) + 1 + 1) = 3 by omega, show ((1 : Int) + 1) = 2 by omega] at h5
  rcases h5 with ⟨h6, h7⟩ | ⟨h6, h7, h8, h9⟩
  · exact .inl ⟨h6, fun m a b => h7 m a (by omega)⟩
  · exact .inr ⟨h6, by have h7' : lightest h x < 5 := h7; omega, h8, fun m a b => h9 m a (by omega)⟩

/-- The best of those that lmay be, gone through in order. -/
def bestStep (cand : Nat → Bool) (key : Int → Int) (best : Int) (i : Nat) : Int := if cand i = true ∧ (best < 0 ∨ key best < key i) then (i : Int) else best
def bestTo (cand : Nat → Bool) (key : Int → Int) : Nat → Int
  | 0 => -1
  | i + 1 => bestStep cand key (bestTo cand key i) i
theorem bestTo_lt (cand : Nat → Bool) (key : Int → Int) : ∀ i, -1 ≤ bestTo cand key i ∧ bestTo cand key i < i
  | 0 => by simp [bestTo]
  | i + 1 => by
    have := bestTo_lt cand key i
    unfold bestTo bestStep
    split <;> omega
/-- None ahead of it, in the order of the keys, then of the places. -/
def IsBest (cand : Nat → Bool) (key : Int → Int) (n : Nat) (b : Int) : Prop := (b = -1 ∧ ∀ i, i < n → cand i = false) ∨ ∃ k : Nat, b = k ∧ k < n ∧ cand k = true ∧ ∀ i : Nat, i < n → cand i = true → key i < key k ∨ (key i = key k ∧ k ≤ i)
theorem bestTo_is (cand : Nat → Bool) (key : Int → Int) : ∀ n, IsBest cand key n (bestTo cand key n)
  | 0 => .inl ⟨rfl, fun i h => by omega⟩
  | n + 1 => by
    unfold bestTo bestStep
    rcases bestTo_is cand key n with ⟨h1, h2⟩ | ⟨k, h1, h2, h3, h4⟩
    · rw [h1]
      by_cases hc : cand n = true
      · rw [if_pos ⟨hc, .inl (by omega)⟩]
        refine .inr ⟨n, rfl, by omega, hc, fun i hi hci => ?_⟩
        by_cases e : i = n
        · rw [e]; exact .inr ⟨rfl, Nat.le_refl _⟩
        · rw [h2 i (by omega)] at hci; cases hci
      · rw [if_neg (fun h => hc h.1)]
        refine .inl ⟨rfl, fun i hi => ?_⟩
        by_cases e : i = n
        · rw [e]; simpa using hc
        · exact h2 i (by omega)
    · rw [h1]
      by_cases hc : cand n = true ∧ key k < key n
      · rw [if_pos ⟨hc.1, .inr hc.2⟩]
        refine .inr ⟨n, rfl, by omega, hc.1, fun i hi hci => ?_⟩
        by_cases e : i = n
        · rw [e]; exact .inr ⟨rfl, Nat.le_refl _⟩
        · have := h4 i (by omega) hci
          omega
      · rw [if_neg (by intro h; exact hc ⟨h.1, h.2.resolve_left (by omega)⟩)]
        refine .inr ⟨k, rfl, by omega, h3, fun i hi hci => ?_⟩
        by_cases e : i = n
        · subst e
          have : ¬ key k < key i := fun h => hc ⟨hci, h⟩
          omega
        · exact h4 i (by omega) hci
theorem IsBest.eq {cand : Nat → Bool} {key : Int → Int} {n : Nat} {b c : Int} (h : IsBest cand key n b) (g : IsBest cand key n c) : b = c := by
  rcases h with ⟨rfl, h2⟩ | ⟨k, rfl, h2, h3, h4⟩ <;> rcases g with ⟨rfl, g2⟩ | ⟨j, rfl, g2, g3, g4⟩
  · rfl
  · rw [h2 j g2] at g3; cases g3
  · rw [g2 k h2] at h3; cases h3
  · have := h4 j g2 g3
    have := g4 k h2 h3
    omega

def hotC (l : List Int) (h : List (List Int)) (high : Int) (i : Nat) : Bool := decide (high * ((h.getD i []).length : Int) < cnt l i) && decide (lightest h i ≠ 0)
def coldC (l : List Int) (h : List (List Int)) (low : Int) (i : Nat) : Bool := decide (2 ≤ (h.getD i []).length) && decide (cnt l i < low * (((h.getD i []).length : Int) - 1))

theorem mul_small {a b : Int} (h1 : 0 ≤ a) (h2 : a ≤ 2147483647) (h3 : -1 ≤ b) (h4 : b ≤ 1000000) : -9223372036854775808 ≤ a * b ∧ a * b ≤ 9223372036854775807 := by
  have u : a * b ≤ 2147483647 * 1000000 := by
    by_cases hb : 0 ≤ b
    · exact Int.mul_le_mul h2 h4 hb (by omega)
    · have : a * b ≤ 0 := Int.mul_nonpos_of_nonneg_of_nonpos h1 (by omega)
      omega
  have d : a * b ≥ a * (-1) := Int.mul_le_mul_of_nonneg_left h3 h1
  constructor <;> omega

theorem hot_loop (l : List Int) (e : Int) (h : List (List Int)) (high : Int) (ty : Nat) (hh : h.length ≤ 1000000) (hr : ∀ r ∈ h, r.length ≤ 1000000) (h1 : 1 ≤ high) (h2 : high ≤ 2147483647) : ∀ (k i ck : Nat), i + k = h.length → ∃ c, evL cfg (.loop f6l0) ⟨[(0, .t (il l)), (2, iv high), (4, .pt ⟨4, 0, 0⟩ 2 0 0), (9, iv (bestTo (hotC l h high) (cnt l) i)), (17, .t (gl h)), (18, iv h.length), (19, iv i)], [(⟨4, 0, 0⟩, .box ty [iv e, .t (gl h)])], ck⟩ =
    some (.exit 0, ⟨[(0, .t (il l)), (2, iv high), (4, .pt ⟨4, 0, 0⟩ 2 0 0), (9, iv (bestTo (hotC l h high) (cnt l) h.length)), (17, .t (gl h)), (18, iv h.length), (19, iv h.length), (20, bv false)], [(⟨4, 0, 0⟩, .box ty [iv e, .t (gl h)])], c⟩) := by
  intro k
  induction k with
  | zero =>
    intro i ck hk
    obtain rfl : i = h.length := by omega
    refine ⟨ck + 1, ?_⟩
    rw [evL_loop]
    simp [f6l0e, gl]
  | succ k ih =>
    intro i ck hk
    have hi : i < h.length := by omega
    have hw : IntKind.i64.wrap ((i : Int) + 1) = (i : Int) + 1 := wrap_id (by omega) (by omega)
    have hri := hr _ (List.getElem_mem hi)
    have hm : IntKind.i64.wrap (high * (h[i].length : Int)) = high * (h[i].length : Int) := by
      have := mul_small (a := high) (b := (h[i].length : Int)) (by omega) h2 (by omega) (by omega)
      exact wrap_id (by omega) (by omega)
    have hct := fun s k => callEv_tr (C := cfg) (count_ret l i) rfl rfl rfl s k
    have hlt := fun s k => callEv_tr (C := cfg) (lightest_ret e h i hh hr) rfl rfl rfl s k
    have hstep : ∃ c, evL cfg (.loop f6l0) ⟨[(0, .t (il l)), (2, iv high), (4, .pt ⟨4, 0, 0⟩ 2 0 0), (9, iv (bestTo (hotC l h high) (cnt l) i)), (17, .t (gl h)), (18, iv h.length), (19, iv i)], [(⟨4, 0, 0⟩, .box ty [iv e, .t (gl h)])], ck⟩ =
      evL cfg (.loop f6l0) ⟨[(0, .t (il l)), (2, iv high), (4, .pt ⟨4, 0, 0⟩ 2 0 0), (9, iv (bestTo (hotC l h high) (cnt l) (i + 1))), (17, .t (gl h)), (18, iv h.length), (19, iv ((i + 1 : Nat) : Int))], [(⟨4, 0, 0⟩, .box ty [iv e, .t (gl h)])], c⟩ := by
      have hb := bestTo_lt (hotC l h high) (cnt l) i
      show ∃ c, _ = evL cfg (.loop f6l0) ⟨[(0, .t (il l)), (2, iv high), (4, .pt ⟨4, 0, 0⟩ 2 0 0), (9, iv (bestStep (hotC l h high) (cnt l) (bestTo (hotC l h high) (cnt l) i) i)), (17, .t (gl h)), (18, iv h.length), (19, iv ((i + 1 : Nat) : Int))], [(⟨4, 0, 0⟩, .box ty [iv e, .t (gl h)])], c⟩
      generalize bestTo (hotC l h high) (cnt l) i = b at hb
      have hcb := fun s k => callEv_tr (C := cfg) (count_ret l b) rfl rfl rfl s k
      simp only [il, iv, bv, gl] at hct hlt hcb
      unfold bestStep hotC
      by_cases c1 : cnt l i ≤ high * (h[i].length : Int)
      · have c1' : ¬ high * (h[i].length : Int) < cnt l i := by omega
        refine ⟨ck + 4, ?_⟩
        rw [evL_loop_n]
        simp [f6l0e, gl, hi, hct, hm, c1, c1', hw]
      · have c1' : high * (h[i].length : Int) < cnt l i := by omega
        by_cases c2 : lightest h i = 0
        · refine ⟨ck + 4, ?_⟩
          rw [evL_loop_n]
          simp [f6l0e, gl, hi, hct, hlt, hm, c1, c1', c2, hw]
        · have c2b : (lightest h i == 0) = false := by simpa using c2
          by_cases c3 : b < 0
          · refine ⟨ck + 6, ?_⟩
            rw [evL_loop_n]
            simp [f6l0e, gl, hi, hct, hlt, hm, c1, c1', c2, c2b, c3, hw]
          · by_cases c4 : cnt l b < cnt l i
            · refine ⟨ck + 6, ?_⟩
              rw [evL_loop_n]
              simp [f6l0e, gl, hi, hct, hlt, hm, c1, c1', c2, c2b, c3, hcb, c4, hw]
            · refine ⟨ck + 5, ?_⟩
              rw [evL_loop_n]
              simp [f6l0e, gl, hi, hct, hlt, hm, c1, c1', c2, c2b, c3, hcb, c4, hw]
    obtain ⟨c0, hs⟩ := hstep
    obtain ⟨c, hc⟩ := ih (i + 1) c0 (by omega)
    exact ⟨c, hs.trans hc⟩

def tu3 (a b : Int) (ok : Bool) : V := .tu [iv a, iv b, bv ok]
def hotR (l : List Int) (e : Int) (h : List (List Int)) (high : Int) : V :=
  if lmay e h high = true ∧ 0 ≤ bestTo (hotC l h high) (cnt l) h.length then tu3 (bestTo (hotC l h high) (cnt l) h.length) (lightest h (bestTo (hotC l h high) (cnt l) h.length)) true else tu3 0 0 false

theorem hot_ret (l : List Int) (e : Int) (h : List (List Int)) (high : Int) (hh : h.length ≤ 1000000) (hr : ∀ r ∈ h, r.length ≤ 1000000) : RetT cfg 6 [.t (il l), .ag [iv e, .t (gl h)], iv high] (hotR l e h high) := by
  have hmy := fun s k => callEv_tr (C := cfg) (lmay_ret e h high hh hr) rfl rfl rfl s k
  simp only [il, iv, bv, gl] at hmy
  unfold hotR
  by_cases hm : lmay e h high = true
  · have hb : 1 ≤ high ∧ high ≤ 2147483647 := by
      simp only [lmay, Bool.and_eq_true, decide_eq_true_eq] at hm
      exact hm.2
    obtain ⟨c, hc⟩ := hot_loop l e h high 25 hh hr hb.1 hb.2 h.length 0 4 (by omega)
    rw [hm] at hmy
    have hlt := fun x s k => callEv_tr (C := cfg) (lightest_ret e h x hh hr) rfl rfl rfl s k
    simp only [il, iv, bv, gl, bestTo, Int.natCast_zero] at hc hlt
    generalize bestTo (hotC l h high) (cnt l) h.length = b at hc
    by_cases h0 : 0 ≤ b
    · have h0' : ¬ b < 0 := by omega
      rw [if_pos ⟨hm, h0⟩]
      refine RetT.of_tu (x := [.i .i64 b, .i .i64 (lightest h b), .b true]) ?_
      rw [runL_pf (fn := f6) rfl rfl]
      simp [gl, hmy, hc, h0', hlt]
    · have h0' : b < 0 := by omega
      rw [if_neg (fun h => h0 h.2)]
      refine RetT.of_tu (x := [.i .i64 0, .i .i64 0, .b false]) ?_
      rw [runL_pf (fn := f6) rfl rfl]
      simp [gl, hmy, hc, h0']
  · have hm' : lmay e h high = false := by simpa using hm
    rw [hm'] at hmy
    rw [if_neg (fun h => hm h.1)]
    refine RetT.of_tu (x := [.i .i64 0, .i .i64 0, .b false]) ?_
    rw [runL_pf (fn := f6) rfl rfl]
    simp [gl, hmy]


def ncnt (l : List Int) (x : Int) : Int := - cnt l x

theorem cold_loop (l : List Int) (e : Int) (h : List (List Int)) (low : Int) (ty : Nat) (hh : h.length ≤ 1000000) (hr : ∀ r ∈ h, r.length ≤ 1000000) (h1 : 1 ≤ low) (h2 : low ≤ 2147483647) : ∀ (k i ck : Nat), i + k = h.length → ∃ c, evL cfg (.loop f7l0) ⟨[(0, .t (il l)), (2, iv low), (4, .pt ⟨4, 0, 0⟩ 2 0 0), (9, iv (bestTo (coldC l h low) (ncnt l) i)), (18, .t (gl h)), (19, iv h.length), (20, iv i)], [(⟨4, 0, 0⟩, .box ty [iv e, .t (gl h)])], ck⟩ =
    some (.exit 0, ⟨[(0, .t (il l)), (2, iv low), (4, .pt ⟨4, 0, 0⟩ 2 0 0), (9, iv (bestTo (coldC l h low) (ncnt l) h.length)), (18, .t (gl h)), (19, iv h.length), (20, iv h.length), (21, bv false)], [(⟨4, 0, 0⟩, .box ty [iv e, .t (gl h)])], c⟩) := by
  intro k
  induction k with
  | zero =>
    intro i ck hk
    obtain rfl : i = h.length := by omega
    refine ⟨ck + 1, ?_⟩
    rw [evL_loop]
    simp [f7l0e, gl]
  | succ k ih =>
    intro i ck hk
    have hi : i < h.length := by omega
    have hw : IntKind.i64.wrap ((i : Int) + 1) = (i : Int) + 1 := wrap_id (by omega) (by omega)
    have hri := hr _ (List.getElem_mem hi)
    have hw1 : IntKind.i64.wrap ((h[i].length : Int) - 1) = (h[i].length : Int) - 1 := wrap_id (by omega) (by omega)
    have hm : IntKind.i64.wrap (low * ((h[i].length : Int) - 1)) = low * ((h[i].length : Int) - 1) := by
      have := mul_small (a := low) (b := (h[i].length : Int) - 1) (by omega) h2 (by omega) (by omega)
      exact wrap_id (by omega) (by omega)
    have hct := fun s k => callEv_tr (C := cfg) (count_ret l i) rfl rfl rfl s k
    have hstep : ∃ c, evL cfg (.loop f7l0) ⟨[(0, .t (il l)), (2, iv low), (4, .pt ⟨4, 0, 0⟩ 2 0 0), (9, iv (bestTo (coldC l h low) (ncnt l) i)), (18, .t (gl h)), (19, iv h.length), (20, iv i)], [(⟨4, 0, 0⟩, .box ty [iv e, .t (gl h)])], ck⟩ =
      evL cfg (.loop f7l0) ⟨[(0, .t (il l)), (2, iv low), (4, .pt ⟨4, 0, 0⟩ 2 0 0), (9, iv (bestTo (coldC l h low) (ncnt l) (i + 1))), (18, .t (gl h)), (19, iv h.length), (20, iv ((i + 1 : Nat) : Int))], [(⟨4, 0, 0⟩, .box ty [iv e, .t (gl h)])], c⟩ := by
      have hb := bestTo_lt (coldC l h low) (ncnt l) i
      show ∃ c, _ = evL cfg (.loop f7l0) ⟨[(0, .t (il l)), (2, iv low), (4, .pt ⟨4, 0, 0⟩ 2 0 0), (9, iv (bestStep (coldC l h low) (ncnt l) (bestTo (coldC l h low) (ncnt l) i) i)), (18, .t (gl h)), (19, iv h.length), (20, iv ((i + 1 : Nat) : Int))], [(⟨4, 0, 0⟩, .box ty [iv e, .t (gl h)])], c⟩
      generalize bestTo (coldC l h low) (ncnt l) i = b at hb
      have hcb := fun s k => callEv_tr (C := cfg) (count_ret l b) rfl rfl rfl s k
      simp only [il, iv, bv, gl] at hct hcb
      unfold bestStep coldC ncnt
      by_cases c0 : (h[i].length : Int) < 2
      · have c0' : ¬ 2 ≤ h[i].length := by omega
        refine ⟨ck + 4, ?_⟩
        rw [evL_loop_n]
        simp [f7l0e, gl, hi, c0, c0', hw]
      · have c0' : 2 ≤ h[i].length := by omega
        by_cases c1 : low * ((h[i].length : Int) - 1) ≤ cnt l i
        · have c1' : ¬ cnt l i < low * ((h[i].length : Int) - 1) := by omega
          refine ⟨ck + 4, ?_⟩
          rw [evL_loop_n]
          simp [f7l0e, gl, hi, hct, hm, hw1, c0, c0', c1, c1', hw]
        · have c1' : cnt l i < low * ((h[i].length : Int) - 1) := by omega
          by_cases c3 : b < 0
          · refine ⟨ck + 6, ?_⟩
            rw [evL_loop_n]
            simp [f7l0e, gl, hi, hct, hm, hw1, c0, c0', c1, c1', c3, hw]
          · by_cases c4 : cnt l i < cnt l b
            · refine ⟨ck + 6, ?_⟩
              rw [evL_loop_n]
              simp [f7l0e, gl, hi, hct, hm, hw1, c0, c0', c1, c1', c3, hcb, c4, hw]
            · refine ⟨ck + 5, ?_⟩
              rw [evL_loop_n]
              simp [f7l0e, gl, hi, hct, hm, hw1, c0, c0', c1, c1', c3, hcb, c4, hw]
    obtain ⟨c0, hs⟩ := hstep
    obtain ⟨c, hc⟩ := ih (i + 1) c0 (by omega)
    exact ⟨c, hs.trans hc⟩

def lastOf (r : List Int) : Int := r.getD (r.length - 1) 0
def coldR (l : List Int) (e : Int) (h : List (List Int)) (low : Int) : V :=
  if lmay e h low = true ∧ 0 ≤ bestTo (coldC l h low) (ncnt l) h.length then tu3 (bestTo (coldC l h low) (ncnt l) h.length) (lastOf (h.getD (bestTo (coldC l h low) (ncnt l) h.length).toNat [])) true else tu3 0 0 false

theorem cold_ret (l : List Int) (e : Int) (h : List (List Int)) (low : Int) (hh : h.length ≤ 1000000) (hr : ∀ r ∈ h, r.length ≤ 1000000) : RetT cfg 7 [.t (il l), .ag [iv e, .t (gl h)], iv low] (coldR l e h low) := by
  have hmy := fun s k => callEv_tr (C := cfg) (lmay_ret e h low hh hr) rfl rfl rfl s k
  simp only [il, iv, bv, gl] at hmy
  unfold coldR
  by_cases hm : lmay e h low = true
  · have hb : 1 ≤ low ∧ low ≤ 2147483647 := by
      simp only [lmay, Bool.and_eq_true, decide_eq_true_eq] at hm
      exact hm.2
    obtain ⟨c, hc⟩ := cold_loop l e h low 25 hh hr hb.1 hb.2 h.length 0 4 (by omega)
    rw [hm] at hmy
    have hbst := bestTo_is (coldC l h low) (ncnt l) h.length
    simp only [il, iv, bv, gl, bestTo, Int.natCast_zero] at hc
    generalize bestTo (coldC l h low) (ncnt l) h.length = b at hc hbst
    by_cases h0 : 0 ≤ b
    · have h0' : ¬ b < 0 := by omega
      rw [if_pos ⟨hm, h0⟩]
      rcases hbst with ⟨h1, _⟩ | ⟨j, rfl, hj, hcj, _⟩
      · omega
      · have hlen : 2 ≤ h[j].length := by
          simp only [coldC, Bool.and_eq_true, decide_eq_true_eq] at hcj
          have := hcj.1
          rwa [List.getD_eq_getElem?_getD, List.getElem?_eq_getElem hj, Option.getD_some] at this
        have hrj := hr _ (List.getElem_mem hj)
        have hw1 : IntKind.i64.wrap ((h[j].length : Int) - 1) = (h[j].length : Int) - 1 := wrap_id (by omega) (by omega)
        have h3 : (1 : Int) ≤ (h[j].length : Int) := by omega
        have h4 : ((h[j].length : Int) - 1).toNat = h[j].length - 1 := by omega
        have h5 : h[j].length - 1 < h[j].length := by omega
        refine RetT.of_tu (x := [.i .i64 j, .i .i64 (lastOf h[j]), .b true]) ?_ |> (fun z => by simpa [tu3, hj] using z)
        rw [runL_pf (fn := f7) rfl rfl]
        simp [gl, hmy, hc, h0', hj, hw1, h3, h4, h5, lastOf]
    · have h0' : b < 0 := by omega
      rw [if_neg (fun h => h0 h.2)]
      refine RetT.of_tu (x := [.i .i64 0, .i .i64 0, .b false]) ?_
      rw [runL_pf (fn := f7) rfl rfl]
      simp [gl, hmy, hc, h0']
  · have hm' : lmay e h low = false := by simpa using hm
    rw [hm'] at hmy
    rw [if_neg (fun h => hm h.1)]
    refine RetT.of_tu (x := [.i .i64 0, .i .i64 0, .b false]) ?_
    rw [runL_pf (fn := f7) rfl rfl]
    simp [gl, hmy]

theorem lmay_right {e : Int} {h : List (List Int)} {b : Int} (hm : lmay e h b = true) : right e h = true ∧ 1 ≤ b ∧ b ≤ 2147483647 := by
  simp only [lmay, Bool.and_eq_true, decide_eq_true_eq] at hm
  exact hm
/-- The results of Hot and Cold, taken apart. -/
theorem hotR_tu (l : List Int) (e : Int) (h : List (List Int)) (b : Int) : ∃ x n ok, hotR l e h b = tu3 x n ok := by
  unfold hotR
  split <;> exact ⟨_, _, _, rfl⟩
theorem coldR_tu (l : List Int) (e : Int) (h : List (List Int)) (b : Int) : ∃ x n ok, coldR l e h b = tu3 x n ok := by
  unfold coldR
  split <;> exact ⟨_, _, _, rfl⟩
theorem tu3_inj {a b : Int} {c : Bool} {a' b' : Int} {c' : Bool} (h : tu3 a b c = tu3 a' b' c') : a = a' ∧ b = b' ∧ c = c' := by
  simpa [tu3] using h
theorem hotR_ok {l : List Int} {e : Int} {h : List (List Int)} {b x n : Int} (hR : hotR l e h b = tu3 x n true) : lmay e h b = true ∧ IsBest (hotC l h b) (cnt l) h.length x ∧ 0 ≤ x ∧ n = lightest h x := by
  unfold hotR at hR
  split at hR
  · rename_i hc
    obtain ⟨rfl, rfl, _⟩ := tu3_inj hR
    exact ⟨hc.1, bestTo_is _ _ _, hc.2, rfl⟩
  · exact absurd (tu3_inj hR).2.2 (by simp)
theorem hotR_of {l : List Int} {e : Int} {h : List (List Int)} {b x : Int} (hm : lmay e h b = true) (hb : IsBest (hotC l h b) (cnt l) h.length x) (hx : 0 ≤ x) : hotR l e h b = tu3 x (lightest h x) true := by
  unfold hotR
  rw [(bestTo_is (hotC l h b) (cnt l) h.length).eq hb, if_pos ⟨hm, hx⟩]
theorem hotR_no {l : List Int} {e : Int} {h : List (List Int)} {b x n : Int} (hR : hotR l e h b = tu3 x n false) : x = 0 ∧ n = 0 := by
  unfold hotR at hR
  split at hR
  · exact absurd (tu3_inj hR).2.2 (by simp)
  · obtain ⟨h1, h2, _⟩ := tu3_inj hR
    exact ⟨h1.symm, h2.symm⟩
theorem coldR_ok {l : List Int} {e : Int} {h : List (List Int)} {b x n : Int} (hR : coldR l e h b = tu3 x n true) : lmay e h b = true ∧ IsBest (coldC l h b) (ncnt l) h.length x ∧ 0 ≤ x ∧ n = lastOf (h.getD x.toNat []) := by
  unfold coldR at hR
  split at hR
  · rename_i hc
    obtain ⟨rfl, rfl, _⟩ := tu3_inj hR
    exact ⟨hc.1, bestTo_is _ _ _, hc.2, rfl⟩
  · exact absurd (tu3_inj hR).2.2 (by simp)


end Go.Proofs.Ytldbikinnoiacaa.Pv
