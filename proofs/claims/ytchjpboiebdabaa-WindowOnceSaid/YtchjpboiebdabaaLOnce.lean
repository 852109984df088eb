/- WindowOnce, reckoned. -/
import Derived.Test.YtchjpboiebdabaaLTurn
set_option linter.unusedVariables false
set_option linter.unusedSimpArgs false
namespace Go.Proofs.Ytchjpboiebdabaa.Pv
open Go Go.Pev

def gotV (G : List Bool) : List V := G.map fun b => .t (.b b)
def bl8 (l : List Nat) : T := .l (l.map fun n : Nat => [.i .u8 (n : Int)])
def Met (G : List Bool) (low : Int) (l : List Int) : Prop := G.length = 256 ∧ ∀ x : Nat, x < 256 → G.getD x false = true → (x : Int) < low ∨ (x : Int) ∈ l

set_option maxHeartbeats 8000000 in
theorem once_loop (xs : List Nat) (hxs : ∀ n ∈ xs, n ≤ 255) : ∀ (m i ck : Nat) (low : Int) (l : List Int) (v : V) (G : List Bool), i + m = xs.length → i ≤ 200 → Sv l v → WIs 255 low l → Met G low l → ∃ ck' e h, evL cfg (.loop f10l0) ⟨[(0, .t (bl8 xs)), (3, .pt ⟨3, 1, 0⟩ 2 0 0), (4, .pt ⟨4, 2, 0⟩ 256 0 0), (5, iv i)], [(⟨4, 2, 0⟩, .box 59 (gotV G)), (⟨3, 1, 0⟩, .box 49 [iv low, v])], ck⟩ =
    some (.exit 0, ⟨e, h, ck'⟩) ∧ h.filter (fun p => !([3, 4].contains p.1.s)) = [] := by
  intro m
  induction m with
  | zero =>
    intro i ck low l v G h h200 hv hi hm
    obtain rfl : i = xs.length := by omega
    refine ⟨ck + 1, [(0, .t (bl8 xs)), (3, .pt ⟨3, 1, 0⟩ 2 0 0), (4, .pt ⟨4, 2, 0⟩ 256 0 0), (5, iv xs.length), (19, bv false)], [(⟨4, 2, 0⟩, .box 59 (gotV G)), (⟨3, 1, 0⟩, .box 49 [iv low, v])], ?_, by simp⟩
    rw [evL_loop]
    simp [f10l0e, bl8]
  | succ m ih =>
    intro i ck low l v G h h200 hv hi hm
    have hlt : i < xs.length := by omega
    by_cases h2 : i < 200
    · have h2' : (i : Int) < 200 := by omega
      have hx := hxs _ (List.getElem_mem hlt)
      obtain ⟨x, hxe⟩ : ∃ x, x = xs[i] := ⟨_, rfl⟩
      rw [← hxe] at hx
      have hw : IntKind.i64.wrap ((i : Int) + 1) = (i : Int) + 1 := wrap_id (by omega) (by omega)
      have hw1 : IntKind.i64.wrap (x : Int) = x := wrap_id (by omega) (by omega)
      obtain ⟨b1, b2, b3⟩ := hi.bnd (by omega)
      have hA := fun hp => callQ_t (C := cfg) (puresOf_win hv hp [iv (x : Int)] rfl).1 (accept_ret low l x b1 b2 b3) (.inr (puresOf_win hv hp [iv (x : Int)] rfl).2)
      obtain ⟨a1, a2, a3, a4, _⟩ := acc_is hi (by omega) (n := (x : Int)) (by omega) (by omega)
      obtain ⟨c1, c2, c3⟩ := a2.bnd (by omega)
      have hR := fun s k => wright_call (.inl rfl) c1 c2 c3 s k
      rw [a2.right (by omega)] at hR
      have hG : x < G.length := by have := hm.1; omega
      have hGl := hm.1
      have hgot : (acc low l x).2.2 = true → G[x] = false := by
        intro hok
        rw [a1] at hok
        cases hg : G[x] with
        | false => rfl
        | true =>
          have := hm.2 x (by omega) (by rw [List.getD_eq_getElem?_getD, List.getElem?_eq_getElem hG, hg]; rfl)
          simp at hok
          rcases this with h | h
          · omega
          · exact absurd h hok.2
      have hm2 : Met (G.set x (G[x] || (acc low l x).2.2)) (acc low l x).1 (acc low l x).2.1 := by
        refine ⟨by simpa using hGl, fun y hy hgy => ?_⟩
        by_cases e : y = x
        · rw [e]; exact a4
        · rw [List.getD_eq_getElem?_getD, List.getElem?_set, if_neg (fun h => e h.symm), ← List.getD_eq_getElem?_getD] at hgy
          exact a3 y (hm.2 y hy hgy)
      obtain ⟨ck', e, h', hc, hc2⟩ := ih (i + 1) (ck + 6) (acc low l x).1 (acc low l x).2.1 (.t (il (acc low l x).2.1)) (G.set x (G[x] || (acc low l x).2.2)) (by omega) (by omega) (.inl rfl) a2 hm2
      refine ⟨ck', e, h', ?_, hc2⟩
      generalize acc low l x = r at hA hR hgot hc
      obtain ⟨lo, l2, ok⟩ := r
      simp only at hA hR hgot hc
      have hd : List.drop x (gotV G) = .t (.b G[x]) :: List.drop (x + 1) (gotV G) := by
        rw [List.drop_eq_getElem_cons (by simp [gotV]; omega)]
        simp [gotV]
      have hgl : (gotV G).length = 256 := by simp [gotV]; omega
      have hx1 : x + 1 ≤ 256 := by omega
      have hxI : (x : Int) < 256 := by omega
      have hset : (gotV G).set x (.t (.b (G[x] || ok))) = gotV (G.set x (G[x] || ok)) := by simp [gotV, List.map_set]
      simp only [accV, iv, bv, il] at hA hR
      have hxi : (xs[i]?).map (fun n : Nat => ([.i .u8 (n : Int)] : List T)) = some [.i .u8 (x : Int)] := by rw [List.getElem?_eq_getElem hlt, ← hxe]; rfl
      rw [evL_loop_n (s1 := ⟨[(0, .t (bl8 xs)), (3, .pt ⟨3, 1, 0⟩ 2 0 0), (4, .pt ⟨4, 2, 0⟩ 256 0 0), (5, iv ((i + 1 : Nat) : Int))], [(⟨4, 2, 0⟩, .box 59 (gotV (G.set x (G[x] || ok)))), (⟨3, 1, 0⟩, .box 49 [iv lo, .t (il l2)])], ck + 6⟩), hc]
      cases ok with
      | true =>
        have hg := hgot rfl
        rw [hg] at hd hset ⊢
        rw [← hset]
        simp [f10l0e, bl8, hlt, h2', ← hxe, hA, hR, hw, hw1, hd, hgl, hx1, hxI, over, il]
      | false =>
        rw [← hset]
        generalize G[x] = gx at hd ⊢
        cases gx <;> simp [f10l0e, bl8, hlt, h2', ← hxe, hA, hR, hw, hw1, hd, hgl, hx1, hxI, over, il]
    · obtain rfl : i = 200 := by omega
      have hlt' : (200 : Int) < xs.length := by omega
      refine ⟨ck + 1, [(0, .t (bl8 xs)), (3, .pt ⟨3, 1, 0⟩ 2 0 0), (4, .pt ⟨4, 2, 0⟩ 256 0 0), (5, iv 200), (19, bv false)], [(⟨4, 2, 0⟩, .box 59 (gotV G)), (⟨3, 1, 0⟩, .box 49 [iv low, v])], ?_, by simp⟩
      rw [evL_loop]
      simp [f10l0e, bl8, hlt']

theorem once_all (c8 : Nat) : ∀ (m i ck : Nat) (v : V), i + m = 50 → Sv [] v → ∃ ck' v', evL cfg (.loop f10l1) ⟨[(8, .pt ⟨8, c8, 0⟩ 2 0 0), (61, iv i)], [(⟨8, c8, 0⟩, .box 49 [iv i, v])], ck⟩ =
    some (.exit 2, ⟨[(8, .pt ⟨8, c8, 0⟩ 2 0 0), (61, iv 50), (62, bv false)], [(⟨8, c8, 0⟩, .box 49 [iv 50, v'])], ck'⟩) := by
  intro m
  induction m with
  | zero =>
    intro i ck v h hv
    obtain rfl : i = 50 := by omega
    refine ⟨ck + 1, v, ?_⟩
    rw [evL_loop]
    simp [f10l1e]
  | succ m ih =>
    intro i ck v h hv
    have hi : (i : Int) < 50 := by omega
    have hw : IntKind.i64.wrap ((i : Int) + 1) = (i : Int) + 1 := wrap_id (by omega) (by omega)
    have hA := fun s k2 => accept_call hv i (low := i) ⟨by omega, by omega⟩ (by simp) (by simp) s k2
    rw [acc_next (by omega) (by omega)] at hA
    obtain ⟨ck', v', hc⟩ := ih (i + 1) (ck + 6) (.t (il [])) (by omega) (.inl rfl)
    refine ⟨ck', v', ?_⟩
    simp only [accV, iv, bv, il] at hA
    rw [evL_loop_n (s1 := ⟨[(8, .pt ⟨8, c8, 0⟩ 2 0 0), (61, iv ((i + 1 : Nat) : Int))], [(⟨8, c8, 0⟩, .box 49 [iv ((i + 1 : Nat) : Int), .t (il [])])], ck + 6⟩), hc]
    simp [f10l1e, hi, hA, hw, over, il]

theorem once_form : f10 = ⟨1, 88, [.tmp 2], (.seq f10r0 (.seq f10r1 (.seq (.reg [(0, ⟨(some 4), .alloc 59 (gotV (List.replicate 256 false)), none⟩)] [0, 3, 4] []) (.seq (.seq f10r3 (.block 0 (.loop f10l0))) (.seq f10r11 (.seq (.seq f10r12 (.block 2 (.loop f10l1))) (.seq f10r20 .ret)))))))⟩ := by kernel_rfl
theorem wonce (xs : List Nat) (hxs : ∀ n ∈ xs, n ≤ 255) : ∃ hp c, runL cfg 10 [.t (bl8 xs)] [] 0 = some (bv true, hp, c) := by
  have ha := fun s k => callEv_tr (C := cfg) awake_ret rfl rfl rfl s k
  simp only [bv] at ha
  rw [runL_pf (fn := f10) rfl rfl]
  have hmet : Met (List.replicate 256 false) 0 [] := ⟨List.length_replicate, fun x hx h => by simp [-List.reduceReplicate, List.getD_eq_getElem?_getD, List.getElem?_replicate, hx] at h⟩
  obtain ⟨c1, e, h, h1, h2⟩ := once_loop xs hxs xs.length 0 4 0 [] .nl (List.replicate 256 false) (by omega) (by omega) (.inr ⟨rfl, rfl⟩) ⟨by omega, by omega, .nil, by simp, by simp⟩ hmet
  obtain ⟨c2, v2, h3⟩ := once_all c1 50 0 (c1 + 1 + 1) .nl (by omega) (.inr ⟨rfl, rfl⟩)
  simp only [iv, bv, Int.natCast_zero] at h1 h3
  rw [once_form]
  have hZ : (gotV (List.replicate 256 false)).length = 256 := by simp only [gotV, List.length_map, List.length_replicate]
  generalize gotV (List.replicate 256 false) = Z at h1 hZ ⊢
  have h2' : List.filter (fun p => !decide (p.fst.s = 3) && !decide (p.fst.s = 4)) h = [] := by
    rw [← h2]
    congr 1
    funext p
    simp
  simp [h1, h2', h3, ha, hZ]

theorem a_u8n {k : Nat} {x : V} (h : ArgFit PP (k + 2) 35 x) : ∃ l : List Nat, x = .t (bl8 l) ∧ ∀ n ∈ l, n ≤ 255 := by
  have hu : PP.underlying 35 = some (.slice 5) := by kernel_rfl
  obtain ⟨l, rfl, _, hw⟩ := argFit_slice (mk := fun n : Nat => [.i .u8 (n : Int)]) (Q := fun n => n ≤ 255) hu (fun c h => by
    obtain ⟨m, rfl, hw⟩ := fits_int u_u8 h
    simp only [Lit.wf, Bool.and_eq_true, decide_eq_true_eq] at hw
    have h1 : IntKind.u8.min = 0 := by decide
    have h2 : IntKind.u8.max = 255 := by decide
    exact ⟨m.toNat, by rw [show ((m.toNat : Nat) : Int) = m by omega], by omega⟩) h
  exact ⟨l, rfl, hw⟩
theorem windowOnce_ev (xs : List V) (h : ArgsFit PP 8 [35] xs) : ∃ hp c, runL cfg 10 xs [] 0 = some (bv true, hp, c) := by
  obtain ⟨x1, r, rfl, h1, h⟩ := argsFit_cons h
  cases argsFit_nil h
  obtain ⟨l, rfl, hl⟩ := a_u8n h1
  exact wonce l hl
end Go.Proofs.Ytchjpboiebdabaa.Pv
