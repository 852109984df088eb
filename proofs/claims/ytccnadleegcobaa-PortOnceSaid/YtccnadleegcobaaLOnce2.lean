/- PortOnce, reckoned. -/
import Derived.Test.YtccnadleegcobaaLOnce
import Derived.Test.YtccnadleegcobaaArgsI
set_option linter.unusedVariables false
set_option linter.unusedSimpArgs false
set_option maxRecDepth 10000
namespace Go.Proofs.Ytccnadleegcobaa.Pv
open Go Go.Pev

theorem cells_tail {cs : List V} {w : Net} (hc : Cells cs w) : ∃ x0 x1 x2 x3 x4 x5 x6 x7 x8 x9, cs = x0 :: x1 :: x2 :: x3 :: x4 :: x5 :: x6 :: x7 :: x8 :: x9 :: ((w.got.map fun n => V.t (.i .i64 n)) ++ [.t (.i .i64 w.sent)]) := by
  obtain ⟨x1, x3, x5, x7, x8, x9, e, -⟩ := hc
  exact ⟨_, _, _, _, _, _, _, _, _, _, e⟩
theorem cells_at {cs : List V} {w : Net} (hc : Cells cs w) (h : NI w) {j : Nat} (hj : j < 256) : ∃ r, List.drop (10 + j) cs = .t (.i .i64 (w.got.getD j 0)) :: r := by
  have hjl : j < w.got.length := by rw [h.glen]; exact hj
  refine ⟨List.drop (j + 1) ((w.got.map fun n => V.t (.i .i64 n)) ++ [.t (.i .i64 w.sent)]), ?_⟩
  obtain ⟨x0, x1, x2, x3, x4, x5, x6, x7, x8, x9, rfl⟩ := cells_tail hc
  rw [Nat.add_comm]
  show List.drop j ((w.got.map fun n => V.t (.i .i64 n)) ++ [.t (.i .i64 w.sent)]) = _
  rw [List.drop_eq_getElem_cons (by simp; omega)]
  congr 1
  rw [List.getElem_append_left (by simpa using hjl)]
  simp [List.getD_eq_getElem?_getD, hjl]
theorem cells_sent {cs : List V} {w : Net} (hc : Cells cs w) (h : NI w) : List.drop 266 cs = [.t (.i .i64 w.sent)] := by
  obtain ⟨x0, x1, x2, x3, x4, x5, x6, x7, x8, x9, rfl⟩ := cells_tail hc
  show List.drop 256 ((w.got.map fun n => V.t (.i .i64 n)) ++ [.t (.i .i64 w.sent)]) = _
  have hG : (w.got.map fun n => V.t (.i .i64 n)).length = 256 := by rw [List.length_map]; exact h.glen
  rw [← hG, List.drop_left]
theorem got_l0 (A I : V) {w : Net} (hn : NI w) : ∀ (k j ck : Nat), j + k = 256 → ∃ e ck', evL cfg (.loop f3l0) ⟨[(0, A), (3, .pt ⟨3, 1, 0⟩ 267 0 0), (4, I), (35, iv j)], NB1 (netL w), ck⟩ = some (.exit 2, ⟨(0, A) :: (3, .pt ⟨3, 1, 0⟩ 267 0 0) :: (4, I) :: e, NB1 (netL w), ck'⟩) := by
  intro k
  induction k with
  | zero =>
    intro j ck hj
    obtain rfl : j = 256 := by omega
    refine ⟨[(35, iv 256), (36, bv false)], ck + 1, ?_⟩
    rw [evL_loop]
    simp [f3l0e]
  | succ k ih =>
    intro j ck hj
    have hj2 : j < 256 := by omega
    have hj8 : (j : Int) < 256 := by omega
    obtain ⟨r, hr⟩ := cells_at (cells_L w) hn hj2
    have hs := cells_sent (cells_L w) hn
    obtain ⟨g1, g2, g3⟩ := ni_got hn hj2
    have hw : IntKind.i64.wrap ((j : Int) + 1) = (j : Int) + 1 := wrap_id (by omega) (by omega)
    obtain ⟨e, ck', hc⟩ := ih (j + 1) (ck + 4) (by omega)
    refine ⟨e, ck', ?_⟩
    rw [evL_loop_n (s1 := ⟨[(0, A), (3, .pt ⟨3, 1, 0⟩ 267 0 0), (4, I), (35, iv ((j + 1 : Nat) : Int))], NB1 (netL w), ck + 4⟩), hc]
    by_cases c : w.got.getD j 0 = 1
    · have hlt : (j : Int) < w.sent := by have := g2 (by omega); omega
      have hlt2 : ¬ w.sent ≤ j := by omega
      rw [c] at hr
      simp [f3l0e, hj8, hj2, hr, hs, hlt, hlt2, hw]
    · have c0 : w.got.getD j 0 = 0 := by omega
      rw [c0] at hr
      simp [f3l0e, hj8, hj2, hr, hs, hw]
def bl2 (l : List (Nat × Nat)) : T := .l (l.map fun n => [.i .u8 (n.1 : Int), .i .u8 (n.2 : Int)])
def actQ (n : Nat) (E : Option (Ex × St)) : Prop := ∃ e c cs w, E = some (.exit n, ⟨e, NB1 cs, c⟩) ∧ e.get 3 = .pt ⟨3, 1, 0⟩ 267 0 0 ∧ Cells cs w ∧ NI w
theorem act_l1 (acts : List (Nat × Nat)) (hA : ∀ x ∈ acts, x.1 ≤ 255 ∧ x.2 ≤ 255) : ∀ (k i ck : Nat) (w : Net) (cs : List V), i + k = acts.length → i ≤ 300 → NI w → Cells cs w → actQ 0 (evL cfg (.loop f3l1) ⟨[(0, .t (bl2 acts)), (3, .pt ⟨3, 1, 0⟩ 267 0 0), (4, iv i)], NB1 cs, ck⟩) := by
  intro k
  induction k with
  | zero =>
    intro i ck w cs hi h3 hn hc
    obtain rfl : i = acts.length := by omega
    refine ⟨[(0, .t (bl2 acts)), (3, .pt ⟨3, 1, 0⟩ 267 0 0), (4, iv acts.length), (17, bv false)], ck + 1, cs, w, ?_, rfl, hc, hn⟩
    rw [evL_loop]
    simp [f3l1e, bl2]
  | succ k ih =>
    intro i ck w cs hi h3 hn hc
    have hlt : i < acts.length := by omega
    have hltI : (i : Int) < acts.length := by omega
    by_cases c : i = 300
    · subst c
      have hltI : (300 : Int) < acts.length := by omega
      refine ⟨[(0, .t (bl2 acts)), (3, .pt ⟨3, 1, 0⟩ 267 0 0), (4, iv 300), (17, bv false)], ck + 1, cs, w, ?_, rfl, hc, hn⟩
      rw [evL_loop]
      simp [f3l1e, bl2, hltI, hlt]
    · have h3I : (i : Int) < 300 := by omega
      have h3N : i < 300 := by omega
      obtain ⟨x, hx⟩ : ∃ x, x = acts[i] := ⟨_, rfl⟩
      obtain ⟨b1, b2⟩ := hA x (by rw [hx]; exact List.getElem_mem hlt)
      have hget : (acts.map fun n => ([.i .u8 (n.1 : Int), .i .u8 (n.2 : Int)] : List T))[i]? = some [.i .u8 (x.1 : Int), .i .u8 (x.2 : Int)] := by simp [hlt, ← hx]
      subst hx
      have hm : Int.tmod (acts[i].1 : Int) 7 = ((acts[i].1 % 7 : Nat) : Int) := rfl
      have hw1 : IntKind.i64.wrap ((acts[i].1 % 7 : Nat) : Int) = ((acts[i].1 % 7 : Nat) : Int) := wrap_id (by omega) (by omega)
      have hw2 : IntKind.i64.wrap (acts[i].2 : Int) = (acts[i].2 : Int) := wrap_id (by omega) (by omega)
      have hw : IntKind.i64.wrap ((i : Int) + 1) = (i : Int) + 1 := wrap_id (by omega) (by omega)
      have hk7 : acts[i].1 % 7 < 7 := Nat.mod_lt _ (by omega)
      generalize acts[i].1 % 7 = kd at hm hw1 hk7
      have hact := fun hp => act_x hc kd acts[i].2 hk7 (by omega) hn.nb hp
      have hcl := (cells_trees hc []).2.2 hn.glen
      have htk : List.take 267 cs = cs := List.take_of_length_le (by omega)
      have hAn := ni_act hn kd acts[i].2
      have hAl : (netL (actN w kd acts[i].2)).length = 267 := netL_len hAn.glen
      have hov : over cs 0 (netL (actN w kd acts[i].2)) = netL (actN w kd acts[i].2) := over_all _ _ (by omega)
      obtain ⟨e, ck', h0⟩ := got_l0 (.t (bl2 acts)) (iv i) hAn 256 0 (ck + 3) (by omega)
      have := ih (i + 1) (ck' + 1) (actN w kd acts[i].2) (netL (actN w kd acts[i].2)) (by omega) (by omega) hAn (cells_L _)
      rw [evL_loop_n (s1 := ⟨[(0, .t (bl2 acts)), (3, .pt ⟨3, 1, 0⟩ 267 0 0), (4, iv ((i + 1 : Nat) : Int))], NB1 (netL (actN w kd acts[i].2)), ck' + 1⟩)]
      · exact this
      · simp only [bl2, iv, Int.natCast_zero] at h0
        simp [f3l1e, bl2, hltI, hlt, h3I, h3N, hget, hm, hw1, hw2, hact, htk, hcl, hAl, hov, h0, hw]
theorem got_l5 {cs : List V} {w : Net} (hcs : Cells cs w) (hn : NI w) (hg : ∀ n : Nat, n < w.sent → w.got.getD n 0 = 1) : ∀ (k j ck : Nat), j + k = w.sent → ∃ e ck', evL cfg (.loop f3l5) ⟨[(3, .pt ⟨3, 1, 0⟩ 267 0 0), (98, iv w.sent), (99, iv j)], NB1 cs, ck⟩ = some (.exit 10, ⟨(3, .pt ⟨3, 1, 0⟩ 267 0 0) :: e, NB1 cs, ck'⟩) := by
  intro k
  induction k with
  | zero =>
    intro j ck hj
    obtain rfl : j = w.sent := by omega
    refine ⟨[(98, iv w.sent), (99, iv w.sent), (100, bv false)], ck + 1, ?_⟩
    rw [evL_loop]
    simp [f3l5e]
  | succ k ih =>
    intro j ck hj
    have hm := hn.many
    have hj2 : j < w.sent := by omega
    have hj8 : (j : Int) < w.sent := by omega
    have hj3 : (j : Int) < 256 := by omega
    obtain ⟨r, hr⟩ := cells_at hcs hn (show j < 256 by omega)
    rw [hg j hj2] at hr
    have hw : IntKind.i64.wrap ((j : Int) + 1) = (j : Int) + 1 := wrap_id (by omega) (by omega)
    obtain ⟨e, ck', hc⟩ := ih (j + 1) (ck + 4) (by omega)
    refine ⟨e, ck', ?_⟩
    rw [evL_loop_n (s1 := ⟨[(3, .pt ⟨3, 1, 0⟩ 267 0 0), (98, iv w.sent), (99, iv ((j + 1 : Nat) : Int))], NB1 cs, ck + 4⟩), hc]
    simp [f3l5e, hj8, hj2, hj3, hr, hw]

theorem again_call {p : Prt} {v1 v2 : V} (h1 : Nv (fl p.q) v1) (h2 : Nv (il p.seen) v2) (hl : p.q.length ≤ 100000) (ht : ∀ f ∈ p.q, f.2.length ≤ 900000) (s : St) (k : Key) : callEv cfg (runL cfg) 6 [.ag [.t (.i .i64 p.next), v1, .t (.i .i64 p.low), v2]] s k = some (.t (sl (againP p)), s.hp, s.ck) :=
  callEv_t rfl rfl (port_pure h1 h2 s.hp).1 (again_ret p hl ht) (.inr (port_pure h1 h2 s.hp).2)
theorem r16_run {cs : List V} {w : Net} (hc : Cells cs w) (hn : NI w) (e : Env) (ck : Nat) : ∃ cs', evL cfg f3r16 ⟨(3, .pt ⟨3, 1, 0⟩ 267 0 0) :: e, NB1 cs, ck⟩ = some (.normal, ⟨[(3, .pt ⟨3, 1, 0⟩ 267 0 0)], NB1 cs', ck + 1⟩) ∧ Cells cs' { w with there := againP w.a } := by
  obtain ⟨x1, x3, x5, x7, x8, x9, rfl, h1, h3, h5, h7, h8, h9⟩ := hc
  have hA := fun s k => again_call h1 h3 (by have := q_len hn; omega) (fun f hf => by rw [(hn.q f hf).1, txt_len]; omega) s k
  refine ⟨_, ?_, ⟨x1, x3, x5, x7, .t (sl (againP w.a)), x9, rfl, h1, h3, h5, h7, .inl rfl, h9⟩⟩
  simp [hA, over]
theorem ni_again {x : Net} (a1 : NI x) : NI { x with there := againP x.a } := by
  have hq := q_len a1
  have hag := again_mem a1
  refine ni_same a1 rfl rfl rfl rfl (fun s hs => ?_) (fun s hs => hs) ?_ a1.blen
  · simp only at hs
    rw [hag] at hs
    obtain ⟨f, hf, rfl⟩ := List.mem_map.1 hs
    exact .inr ⟨f.1, (a1.q f hf).2.1, (a1.q f hf).2.2.1, rfl⟩
  · simp only; rw [hag, List.length_map]; omega
theorem cells_end {cs : List V} {w : Net} (hc : Cells cs w) (hq : w.a.q = []) (ht : w.there = []) : (∃ x1 r, List.drop 1 cs = x1 :: r ∧ len x1 = some (.t (.i .i64 0))) ∧ ∃ x8 r, List.drop 8 cs = x8 :: r ∧ len x8 = some (.t (.i .i64 0)) := by
  obtain ⟨x8, r8, d8, l8⟩ := cells_8 hc
  obtain ⟨x1, x3, x5, x7, y8, x9, rfl, h1, h3, h5, h7, h8, h9⟩ := hc
  refine ⟨⟨x1, _, rfl, ?_⟩, x8, r8, d8, by rw [l8, ht]; rfl⟩
  rw [nv_lenf h1, hq]; rfl
theorem once_form : f3 = ⟨1, 123, [.tmp 2], (.seq f3r0 (.seq (.reg [(0, ⟨(some 3), .alloc 34 (netZ zero256), none⟩)] [0, 3] []) (.seq (.seq f3r2 (.block 0 (.loop f3l1))) (.seq (.seq f3r12 (.block 4 (.loop f3l2))) (.seq f3r16 (.seq (.seq f3r17 (.block 6 (.loop f3l3))) (.seq (.seq f3r21 (.block 8 (.loop f3l4))) (.seq (.seq f3r25 (.block 10 (.loop f3l5))) (.seq f3r31 .ret)))))))))⟩ := by kernel_rfl
theorem ponce (acts : List (Nat × Nat)) (hA : ∀ x ∈ acts, x.1 ≤ 255 ∧ x.2 ≤ 255) : ∃ hp c, runL cfg 3 [.t (bl2 acts)] [] 0 = some (bv true, hp, c) := by
  have ha := fun s k => callEv_tr (C := cfg) awake_ret rfl rfl rfl s k
  simp only [bv] at ha
  rw [runL_pf (fn := f3) rfl rfl, once_form]
  have hZ : (netZ zero256).length = 267 := netZ_len (by unfold zero256; rw [List.length_replicate])
  have hZc := cells_Z
  generalize netZ zero256 = Z at hZ hZc ⊢
  obtain ⟨e1, c1, cs1, w1, h1, g1, k1, n1⟩ := act_l1 acts hA acts.length 0 3 net0 Z (by omega) (by omega) ni_0 hZc
  obtain ⟨v, hv, n5, q5, t5, gg⟩ := once_ends n1
  obtain ⟨e2, c2, cs2, h2, k2, n2⟩ := tell_l2 800 0 (c1 + 1) w1 cs1 (by omega) n1 k1
  simp only [iv, Int.natCast_zero] at h1 h2
  obtain ⟨cs3, h3, k3⟩ := r16_run k2 n2 e2 c2
  have n3 := ni_again n2
  obtain ⟨e4, c4, cs4, h4, k4, n4⟩ := del_l3 400 0 (c2 + 1 + 1) _ cs3 (by omega) n3 k3
  obtain ⟨e5, c5, cs5, h5, k5, n5'⟩ := tell_l4 800 0 (c4 + 1) _ cs4 (by omega) n4 k4
  rw [← hv] at k5
  have hs := cells_sent k5 n5
  obtain ⟨e6, c6, h6⟩ := got_l5 k5 n5 gg v.sent 0 (c5 + 1) (by omega)
  obtain ⟨⟨y1, r1, d1, l1⟩, y8, r8, d8, l8⟩ := cells_end k5 q5 t5
  simp only [iv, Int.natCast_zero] at h4 h5 h6
  simp [hZ, h1, g1, h2, h3, h4, h5, h6, hs, d1, l1, d8, l8, ha]

theorem u_u8' : PP.underlying 5 = some (.int .u8) := by kernel_rfl
theorem f_u8 {k : Nat} (c : List T) (h : Fits PP (k + 1) 5 c) : ∃ m : Nat, c = [.i .u8 (m : Int)] ∧ m ≤ 255 := by
  obtain ⟨m, rfl, hw⟩ := fits_int u_u8' h
  simp only [Lit.wf, Bool.and_eq_true, decide_eq_true_eq] at hw
  have h1 : IntKind.u8.min = 0 := by decide
  have h2 : IntKind.u8.max = 255 := by decide
  exact ⟨m.toNat, by rw [show ((m.toNat : Nat) : Int) = m by omega], by omega⟩
theorem fits_array {P : Program} {n m : Nat} {t e : TypeId} {ts : List T} (hu : P.underlying t = some (.array m e)) (h : Fits P (n + 1) t ts) : ts.length = m * P.cellsOf e ∧ ∀ i, i < m → Fits P n e ((ts.drop (i * P.cellsOf e)).take (P.cellsOf e)) := by
  simpa only [Fits, hu] using h
theorem f_two {k : Nat} (c : List T) (h : Fits PP (k + 2) 36 c) : ∃ x : Nat × Nat, c = [.i .u8 (x.1 : Int), .i .u8 (x.2 : Int)] ∧ (x.1 ≤ 255 ∧ x.2 ≤ 255) := by
  have hu : PP.underlying 36 = some (.array 2 5) := by kernel_rfl
  have hc : PP.cellsOf 5 = 1 := by kernel_rfl
  obtain ⟨h1, h2⟩ := fits_array hu h
  rw [hc] at h1 h2
  match c, h1 with
  | [a, b], _ =>
    obtain ⟨m, e1, b1⟩ := f_u8 _ (h2 0 (by omega))
    obtain ⟨n, e2, b2⟩ := f_u8 _ (h2 1 (by omega))
    simp only [Nat.zero_mul, List.drop_zero, List.take_succ_cons, List.take_zero, Nat.one_mul, List.drop_succ_cons, List.cons.injEq, and_true] at e1 e2
    exact ⟨(m, n), by rw [e1, e2], b1, b2⟩
theorem a_two {k : Nat} {x : V} (h : ArgFit PP (k + 3) 22 x) : ∃ l : List (Nat × Nat), x = .t (bl2 l) ∧ ∀ n ∈ l, n.1 ≤ 255 ∧ n.2 ≤ 255 := by
  have hu : PP.underlying 22 = some (.slice 36) := by kernel_rfl
  obtain ⟨l, rfl, _, hw⟩ := argFit_slice (mk := fun n : Nat × Nat => [.i .u8 (n.1 : Int), .i .u8 (n.2 : Int)]) (Q := fun n => n.1 ≤ 255 ∧ n.2 ≤ 255) hu f_two h
  exact ⟨l, rfl, hw⟩
theorem portOnce_ev (xs : List V) (h : ArgsFit PP 8 [22] xs) : ∃ hp c, runL cfg 3 xs [] 0 = some (bv true, hp, c) := by
  obtain ⟨x1, r, rfl, h1, h⟩ := argsFit_cons h
  cases argsFit_nil h
  obtain ⟨l, rfl, hl⟩ := a_two h1
  exact ponce l hl
end Go.Proofs.Ytccnadleegcobaa.Pv
