/- What the functions of these laws tell (made by mergecom.py out of SSame SSame15 LSame LSame2). -/
import Derived.Test.YtbocnaoihepjfaaGreatMapsA
import Derived.Test.YtbocnaoihepjfaaGreatMapsB
set_option linter.unusedVariables false
set_option linter.unusedSimpArgs false
section
/- What the document's Same of the layer 2 tells. -/
namespace Go.Proofs.YtbocnaoihepjfaaGreat.Pv
open Go Go.Pev
theorem same_loop (a b : List Int) (hl : a.length ≤ 1000000) (hab : a.length = b.length) : ∀ (k i ck : Nat), i + k = a.length → ∃ c, evL cfg (.loop f55l0) ⟨[(0, .t (il a)), (1, .t (il b)), (5, iv i)], [], ck⟩ =
    some (if a.drop i = b.drop i then (.exit 0, ⟨[(0, .t (il a)), (1, .t (il b)), (5, iv a.length), (14, bv false)], [], c⟩) else (.ret, ⟨[(4, bv false)], [], c⟩)) := by
  intro k
  induction k with
  | zero =>
    intro i ck h
    obtain rfl : i = a.length := by omega
    refine ⟨ck + 1, ?_⟩
    have h1 : a.drop a.length = b.drop a.length := by rw [List.drop_length, hab, List.drop_length]
    rw [evL_loop, if_pos h1]
    simp [f55l0e]
  | succ k ih =>
    intro i ck h
    have hi : i < a.length := by omega
    have hi' : i < b.length := by omega
    have h1 : a.drop i = b.drop i ↔ a[i] = b[i] ∧ a.drop (i + 1) = b.drop (i + 1) := by
      rw [List.drop_eq_getElem_cons hi, List.drop_eq_getElem_cons hi', List.cons.injEq]
    by_cases hx : a[i] = b[i]
    · obtain ⟨c, hc⟩ := ih (i + 1) (ck + 3) (by omega)
      refine ⟨c, ?_⟩
      rw [evL_loop_n (s1 := ⟨[(0, .t (il a)), (1, .t (il b)), (5, iv ((i + 1 : Nat) : Int))], [], ck + 3⟩), hc]
      · simp only [h1, hx, true_and]
      · have hw : IntKind.i64.wrap ((i : Int) + 1) = (i : Int) + 1 := wrap_id (by omega) (by omega)
        simp [f55l0e, hi, hi', hx, hw]
    · refine ⟨ck + 3, ?_⟩
      have hb : (a[i] != b[i]) = true := by simp [hx]
      rw [evL_loop, if_neg (fun h => hx (h1.1 h).1)]
      simp [f55l0e, hi, hi', hb]

theorem same_ret (a b : List Int) (hl : a.length ≤ 1000000) : RetT cfg 55 [.t (il a), .t (il b)] (bv (decide (a = b))) := by
  refine RetT.of ?_
  rw [runL_pf (fn := f55) rfl rfl]
  by_cases hab : a.length = b.length
  · obtain ⟨c, hc⟩ := same_loop a b hl hab a.length 0 3 (by omega)
    simp only [List.drop_zero] at hc
    by_cases hx : a = b
    · subst hx
      simp at hc
      simp [hc]
    · rw [if_neg hx] at hc
      simp [hab] at hc
      simp [hab, hx, hc]
  · have h1 : ¬ a = b := fun e => hab (by rw [e])
    have hb : ((a.length : Int) != (b.length : Int)) = true := by simp; omega
    simp [hb, h1]

end Go.Proofs.YtbocnaoihepjfaaGreat.Pv
end

section
/- What the document's Same of the layer 15 tells. -/
namespace Go.Proofs.YtbocnaoihepjfaaGreat.Pv
open Go Go.Pev
theorem same15_loop (a b : List (List Int)) (hl : a.length ≤ 1000000) (hr : ∀ r ∈ a, r.length ≤ 1000000) (hab : a.length = b.length) : ∀ (k i ck : Nat), i + k = a.length → ∃ c, evL cfg (.loop f22l0) ⟨[(0, .t (gl a)), (1, .t (gl b)), (5, iv i)], [], ck⟩ =
    some (if a.drop i = b.drop i then (.exit 0, ⟨[(0, .t (gl a)), (1, .t (gl b)), (5, iv a.length), (14, bv false)], [], c⟩) else (.ret, ⟨[(4, bv false)], [], c⟩)) := by
  intro k
  induction k with
  | zero =>
    intro i ck h
    obtain rfl : i = a.length := by omega
    refine ⟨ck + 1, ?_⟩
    rw [evL_loop]
    simp [f22l0e, gl, hab]
  | succ k ih =>
    intro i ck h
    have hi : i < a.length := by omega
    have hib : i < b.length := by omega
    have hw : IntKind.i64.wrap ((i : Int) + 1) = (i : Int) + 1 := wrap_id (by omega) (by omega)
    have hs := fun hp => callQ_tr (C := cfg) (same_ret a[i] b[i] (hr _ (List.getElem_mem hi))) rfl hp
    simp only [il, bv] at hs
    have hd : (a.drop i = b.drop i) = (a[i] = b[i] ∧ a.drop (i + 1) = b.drop (i + 1)) := by
      rw [List.drop_eq_getElem_cons hi, List.drop_eq_getElem_cons hib]; simp only [List.cons.injEq]
    simp only [hd]
    by_cases hx : a[i] = b[i]
    · obtain ⟨c, hc⟩ := ih (i + 1) (ck + 3) (by omega)
      refine ⟨c, ?_⟩
      rw [evL_loop_n (s1 := ⟨[(0, .t (gl a)), (1, .t (gl b)), (5, iv ((i + 1 : Nat) : Int))], [], ck + 3⟩), hc]
      · simp [hx]
      · rw [hx] at hs
        simp [f22l0e, gl, hi, hib, hs, hx, hw]
    · refine ⟨ck + 3, ?_⟩
      rw [evL_loop]
      simp [f22l0e, gl, hi, hib, hs, hx]

theorem same15_ret (a b : List (List Int)) (hl : a.length ≤ 1000000) (hr : ∀ r ∈ a, r.length ≤ 1000000) : RetT cfg 22 [.t (gl a), .t (gl b)] (bv (decide (a = b))) := by
  refine RetT.of ?_
  rw [runL_pf (fn := f22) rfl rfl]
  by_cases hab : a.length = b.length
  · obtain ⟨c, hc⟩ := same15_loop a b hl hr hab a.length 0 3 (by omega)
    simp only [List.drop_zero, gl] at hc
    by_cases hx : a = b
    · subst hx
      simp at hc
      simp [gl, hc]
    · rw [if_neg hx] at hc
      simp [hab] at hc
      simp [gl, hab, hx, hc]
  · have h1 : ¬ a = b := fun e => hab (by rw [e])
    have hb : ((a.length : Int) != (b.length : Int)) = true := by simp; omega
    simp [gl, h1, hb]
end Go.Proofs.YtbocnaoihepjfaaGreat.Pv
end

section
/- FleetSame, reckoned. -/
set_option maxRecDepth 100000
namespace Go.Proofs.YtbocnaoihepjfaaGreat.Pv
open Go Go.Pev
variable {N : Nat}

theorem fls_other {h h' : HP} {ck ck' cf ca cb ca' cb' cg cx cy : Nat} {F : Flt} (hS : FlS h ck cg cx cy F) (r : Ran h ck cf ca cb h' ck' ca' cb') (h1 : cg ≠ cf) (h2 : cx ≠ ca) (h3 : cy ≠ cb) : FlS h' ck' cg cx cy F := by
  obtain ⟨v, hB, l1, l2, l3, hr⟩ := hS
  have := r.le
  refine ⟨v, ⟨?_, hB.2⟩, by omega, by omega, by omega, fun hc => ?_⟩
  · rw [r.fr _ l1 (by simpa using h1) (by simp) (by simp)]; exact hB.1
  · obtain ⟨r1, r2, r3, r4, r5⟩ := hr hc
    exact ⟨r1, r2, r3, by rw [r.fr _ l2 (by simp) (by simpa using h2) (by simp)]; exact r4, by rw [r.fr _ l3 (by simp) (by simp) (by simpa using h3)]; exact r5⟩
theorem same_rows {a b : List (List Int)} {kd1 kd2 : Key} {t1 t2 : Nat} {f1 f2 : Bool} (hl : a.length ≤ 1000000) (hr : ∀ r ∈ a, r.length ≤ 1000000) (s : St) (k : Key) (g1 : s.hp.get kd1 = some (.row t1 1 (a.map fun r => [il r]) f1)) (g2 : s.hp.get kd2 = some (.row t2 1 (b.map fun r => [il r]) f2)) : callEv cfg (runL cfg) 22 [.ow kd1 1 0 a.length, .ow kd2 1 0 b.length] s k = some (bv (decide (a = b)), s.hp, s.ck) := by
  refine callEv_t rfl rfl ?_ (same15_ret a b hl hr) (.inl rfl)
  simp [puresOf, pureOf, treeOf, g1, g2, gl, il]
  exact ⟨List.take_of_length_le (by simp), List.take_of_length_le (by simp)⟩
theorem done_few {F : Flt} (hO : Ok N F) : (doneP F).1.length ≤ 1000000 ∧ ∀ r ∈ (doneP F).1, r.length ≤ 1000000 := by
  unfold doneP
  split
  · simp
  · exact ⟨hO.f0.toks.1, hO.f0.toks.2⟩
theorem sm_in (bg : List (List UInt8)) (k1 k2 : Key) (h : HP) (t1 t2 : Nat) (b1 b2 : Bool) (w3 w9 w11 w13 : V) (g1 : h.get k1 = some (.row t1 1 (slc bg) b1)) (g2 : h.get k2 = some (.row t2 1 (slc bg) b2)) (hl : bg.length ≤ 1000000) (ck : Nat) : ∃ ck' e, ck ≤ ck' ∧ evL cfg (.loop f8l0) ⟨[(3, w3), (9, w9), (11, w11), (13, w13), (18, .ow k1 1 0 bg.length), (19, .ow k2 1 0 bg.length), (123, iv bg.length), (124, iv 0)], h, ck⟩ = some (.exit 2, ⟨[(3, w3), (9, w9), (11, w11), (13, w13), (18, .ow k1 1 0 bg.length), (19, .ow k2 1 0 bg.length), (123, iv bg.length), (124, iv bg.length), (125, e)], h, ck'⟩) := by
  refine loop_q (Q := fun E => ∃ ck' e, ck ≤ ck' ∧ E = some (.exit 2, ⟨[(3, w3), (9, w9), (11, w11), (13, w13), (18, .ow k1 1 0 bg.length), (19, .ow k2 1 0 bg.length), (123, iv bg.length), (124, iv bg.length), (125, e)], h, ck'⟩)) bg.length (fun i s => ∃ c, ck ≤ c ∧ s = ⟨[(3, w3), (9, w9), (11, w11), (13, w13), (18, .ow k1 1 0 bg.length), (19, .ow k2 1 0 bg.length), (123, iv bg.length), (124, iv (i : Int))], h, c⟩) ?_ ?_ _ ⟨ck, Nat.le_refl _, rfl⟩
  · rintro i s hi ⟨c, hc, rfl⟩
    have hw : IntKind.i64.wrap ((i : Int) + 1) = (i : Int) + 1 := wrap_id (by omega) (by omega)
    simp only [slc] at g1 g2
    simp [f8l0e, hi, g1, g2, hw, filt_t, slc]
    omega
  · rintro s ⟨c, hc, rfl⟩
    simp [f8l0e, filt_t]
    omega
def smI (acts : List Act) (cf cg : Nat) (i : Nat) (s : St) : Prop := ∃ h ck ca cb cx cy F, s = ⟨[(3, .t (.l (acts.map actC))), (9, .pt ⟨34, cf, 5⟩ 15 0 0), (11, .pt ⟨34, cg, 5⟩ 15 0 0), (13, iv (i : Int))], h, ck⟩ ∧ FlS h ck cf ca cb F ∧ FlS h ck cg cx cy F ∧ Ok i F ∧ cf ≠ cg ∧ ca ≠ cx ∧ cb ≠ cy
def smQ (E : Option (Ex × St)) : Prop := ∃ e h ck, E = some (.exit 0, ⟨e, h, ck⟩)
theorem sm_step (acts : List Act) (cf cg : Nat) (hA : ∀ a ∈ acts, FewA a) (i : Nat) (hi : i < acts.length) (h1 : i < 100) {h : HP} {ck ca cb cx cy : Nat} {F : Flt} (sA : FlS h ck cf ca cb F) (sB : FlS h ck cg cx cy F) (o : Ok i F) (n1 : cf ≠ cg) (n2 : ca ≠ cx) (n3 : cb ≠ cy) :
    ∃ h' ck' e, evL cfg f8l1 ⟨[(3, .t (.l (acts.map actC))), (9, .pt ⟨34, cf, 5⟩ 15 0 0), (11, .pt ⟨34, cg, 5⟩ 15 0 0), (13, iv (i : Int))], h, ck⟩ = some (.normal, ⟨e, h', ck'⟩) ∧ smI acts cf cg (i + 1) ⟨e, h', ck'⟩ := by
  have hw : IntKind.i64.wrap ((i : Int) + 1) = (i : Int) + 1 := wrap_id (by omega) (by omega)
  have h1' : (i : Int) < 100 := by omega
  have fa := hA _ (List.getElem_mem hi)
  generalize ha : acts[i] = a at *
  obtain ⟨h2, k2, ca2, cb2, r2, s2, o2, m2⟩ := do_run (ck := ck + 1 + 1) a fa (fls_le sA (by omega)) o (by omega)
  have q2 := fun e k => callEv_h (C := cfg) (s := ⟨e, _, ck + 1⟩) rfl r2 k
  have sB2 := fls_other (fls_le sB (by omega)) m2 (Ne.symm n1) (Ne.symm n2) (Ne.symm n3)
  have d2 : cx ≠ ca2 ∧ cy ≠ cb2 := by
    obtain ⟨v, hB, l1, l2, l3, hr⟩ := sB
    exact ⟨by rcases m2.ca with e | e <;> omega, by rcases m2.cb with e | e <;> omega⟩
  obtain ⟨h3, k3, cx3, cy3, r3, s3, o3, m3⟩ := do_run (ck := k2 + 1 + 1 + 1) a fa (fls_le sB2 (by omega)) o (by omega)
  have q3 := fun e k => callEv_h (C := cfg) (s := ⟨e, _, k2 + 1 + 1⟩) rfl r3 k
  have sA3 := fls_other (fls_le s2 (by omega)) m3 n1 (Ne.symm d2.1) (Ne.symm d2.2)
  have d3 : ca2 ≠ cx3 ∧ cb2 ≠ cy3 := by
    obtain ⟨v, hB, l1, l2, l3, hr⟩ := s2
    exact ⟨by rcases m3.ca with e | e <;> omega, by rcases m3.cb with e | e <;> omega⟩
  generalize doP F a = G at *
  obtain ⟨h4, k4, kd, r4, g4, l4, l5, l6, l7, f4⟩ := done_run (ck := k3 + 1 + 1 + 1) (fls_le sA3 (by omega)) o2
  have q4 := fun e k => callEv_h (C := cfg) (s := ⟨e, _, k3 + 1 + 1⟩) rfl r4 k
  have sA4 := fls_fr (fls_le sA3 (ck' := k3 + 1 + 1 + 1) (by omega)) l4 f4
  have sB4 := fls_fr (fls_le s3 (ck' := k3 + 1 + 1 + 1) (by omega)) l4 f4
  obtain ⟨h5, k5, ke, r5, g5, l8, l9, l10, l11, f5⟩ := done_run (ck := k4 + 1 + 1 + 1) (fls_le sB4 (by omega)) o2
  have q5 := fun e k => callEv_h (C := cfg) (s := ⟨e, _, k4 + 1 + 1⟩) rfl r5 k
  have sA5 := fls_fr (fls_le sA4 (ck' := k4 + 1 + 1 + 1) (by omega)) l8 f5
  have sB5 := fls_fr (fls_le sB4 (ck' := k4 + 1 + 1 + 1) (by omega)) l8 f5
  have r6 := bag_run (fls_le sA5 (ck' := k5 + 1 + 1 + 1) (by omega)) o2
  have q6 := fun e k => callEv_h (C := cfg) (s := ⟨e, _, k5 + 1 + 1⟩) rfl r6 k
  have box : ∀ {cf ca cb : Nat}, FlS h5 k5 cf ca cb G → FlS ((⟨7, k5 + 1 + 1 + 1 + 1, 4⟩, .row 9 1 (slc G.bag) false) :: (⟨2, k5 + 1 + 1 + 1, 0⟩, .row 9 1 [] false) :: h5) (k5 + 1 + 1 + 1 + 2 + 1 + 1) cf ca cb G := fun z => fls_box (ck := k5 + 1 + 1 + 1) (fls_box (fls_le z (by omega)) (Nat.le_refl _) _ (Nat.le_refl _)) (by omega) _ (by omega)
  have sA6 := box sA5
  have sB6 := box sB5
  clear box
  have r7 := bag_run sB6 o2
  have q7 := fun e k => callEv_h (C := cfg) (s := ⟨e, _, k5 + 1 + 1 + 1 + 2 + 1⟩) rfl r7 k
  generalize hK : k5 + 1 + 1 + 1 + 2 + 1 + 1 = K at *
  have hk5 : k5 + 7 = K := by omega
  have box : ∀ {cf ca cb : Nat}, FlS ((⟨7, k5 + 1 + 1 + 1 + 1, 4⟩, .row 9 1 (slc G.bag) false) :: (⟨2, k5 + 1 + 1 + 1, 0⟩, .row 9 1 [] false) :: h5) K cf ca cb G → FlS ((⟨7, K + 1, 4⟩, .row 9 1 (slc G.bag) false) :: (⟨2, K, 0⟩, .row 9 1 [] false) :: (⟨7, k5 + 1 + 1 + 1 + 1, 4⟩, .row 9 1 (slc G.bag) false) :: (⟨2, k5 + 1 + 1 + 1, 0⟩, .row 9 1 [] false) :: h5) (K + 2) cf ca cb G := fun z => fls_box (ck := K) (fls_box z (Nat.le_refl _) _ (Nat.le_refl _)) (by omega) _ (by omega)
  have sA7 := box sA6
  have sB7 := box sB6
  clear box
  have g4' : HP.get ((⟨7, K + 1, 4⟩, .row 9 1 (slc G.bag) false) :: (⟨2, K, 0⟩, .row 9 1 [] false) :: (⟨7, k5 + 1 + 1 + 1 + 1, 4⟩, .row 9 1 (slc G.bag) false) :: (⟨2, k5 + 1 + 1 + 1, 0⟩, .row 9 1 [] false) :: h5) kd = some (.row 42 1 ((doneP G).1.map fun r => [il r]) false) := by
    rw [get_new (by omega), get_new (by omega), get_new (by omega), get_new (by omega), f5 _ (by omega)]; exact g4
  have g5' : HP.get ((⟨7, K + 1, 4⟩, .row 9 1 (slc G.bag) false) :: (⟨2, K, 0⟩, .row 9 1 [] false) :: (⟨7, k5 + 1 + 1 + 1 + 1, 4⟩, .row 9 1 (slc G.bag) false) :: (⟨2, k5 + 1 + 1 + 1, 0⟩, .row 9 1 [] false) :: h5) ke = some (.row 42 1 ((doneP G).1.map fun r => [il r]) false) := by
    rw [get_new (by omega), get_new (by omega), get_new (by omega), get_new (by omega)]; exact g5
  obtain ⟨z1, z2⟩ := done_few o2
  have qs := fun e c k => same_rows (t1 := 42) (t2 := 42) (f1 := false) (f2 := false) z1 z2 ⟨e, _, c⟩ k g4' g5'
  obtain ⟨k8, r8, l12⟩ := worked_run (ck := K + 2 + 1 + 1 + 1) (fls_le sA7 (by omega)) o2 (by omega)
  have q8 := fun e k => callEv_h (C := cfg) (s := ⟨e, _, K + 2 + 1 + 1⟩) rfl r8 k
  obtain ⟨k9, r9, l13⟩ := worked_run (ck := k8 + 1 + 1) (fls_le sB7 (by omega)) o2 (by omega)
  have q9 := fun e k => callEv_h (C := cfg) (s := ⟨e, _, k8 + 1⟩) rfl r9 k
  obtain ⟨kx, ex, lx, hL⟩ := sm_in G.bag ⟨7, k5 + 1 + 1 + 1 + 1, 4⟩ ⟨7, K + 1, 4⟩ ((⟨7, K + 1, 4⟩, .row 9 1 (slc G.bag) false) :: (⟨2, K, 0⟩, .row 9 1 [] false) :: (⟨7, k5 + 1 + 1 + 1 + 1, 4⟩, .row 9 1 (slc G.bag) false) :: (⟨2, k5 + 1 + 1 + 1, 0⟩, .row 9 1 [] false) :: h5) 9 9 false false (.t (.l (acts.map actC))) (.pt ⟨34, cf, 5⟩ 15 0 0) (.pt ⟨34, cg, 5⟩ 15 0 0) (iv i) (by rw [get_new (by simp only; omega), get_new (by simp only; omega)]; simp [HP.get]) (by simp [HP.get]) o2.f0.bag (k9 + 1 + 1 + 1)
  simp only [↓reduceIte, decide_true, actV, il, iv, bv] at q2 q3 q4 q5 q6 q7 q8 q9 qs hL
  have hs : smI acts cf cg (i + 1) ⟨[(3, .t (.l (acts.map actC))), (9, .pt ⟨34, cf, 5⟩ 15 0 0), (11, .pt ⟨34, cg, 5⟩ 15 0 0), (13, iv ((i + 1 : Nat) : Int))], ((⟨7, K + 1, 4⟩, .row 9 1 (slc G.bag) false) :: (⟨2, K, 0⟩, .row 9 1 [] false) :: (⟨7, k5 + 1 + 1 + 1 + 1, 4⟩, .row 9 1 (slc G.bag) false) :: (⟨2, k5 + 1 + 1 + 1, 0⟩, .row 9 1 [] false) :: h5), kx + 1⟩ := ⟨_, _, _, _, _, _, G, rfl, fls_le sA7 (by omega), fls_le sB7 (by omega), o2, n1, d3.1, d3.2⟩
  refine ⟨_, _, _, ?_, hs⟩
  have hs2 : actC a = [.i .u8 a.k, .i .u8 a.n, .i .u8 a.m] := rfl
  generalize doneP G = dp at *
  generalize workedP G = wp at *
  obtain ⟨d1, db⟩ := dp
  simp [f8l1e, hi, h1', ha, hs2, q2, q3, q4, q5, q6, hK, q7, qs, q8, q9, hL, hw, filt_t]
end Go.Proofs.YtbocnaoihepjfaaGreat.Pv
end

section
/- FleetSame, whole. -/
set_option maxRecDepth 100000
namespace Go.Proofs.YtbocnaoihepjfaaGreat.Pv
open Go Go.Pev
variable {N : Nat}

theorem sm_loop2 (acts : List Act) (cf cg : Nat) (hA : ∀ a ∈ acts, FewA a) {h : HP} {ck ca cb cx cy : Nat} {F : Flt} (sA : FlS h ck cf ca cb F) (sB : FlS h ck cg cx cy F) (o : Ok 0 F) (n1 : cf ≠ cg) (n2 : ca ≠ cx) (n3 : cb ≠ cy) : smQ (evL cfg (.loop f8l1) ⟨[(3, .t (.l (acts.map actC))), (9, .pt ⟨34, cf, 5⟩ 15 0 0), (11, .pt ⟨34, cg, 5⟩ 15 0 0), (13, iv 0)], h, ck⟩) := by
  refine loop_q (min acts.length 100) (smI acts cf cg) ?_ ?_ _ ⟨h, ck, ca, cb, cx, cy, F, rfl, sA, sB, o, n1, n2, n3⟩
  · rintro i s hi ⟨h, ck, ca, cb, cx, cy, F, rfl, sA, sB, o, n1, n2, n3⟩
    obtain ⟨h', ck', e, he, hs⟩ := sm_step acts cf cg hA i (by omega) (by omega) sA sB o n1 n2 n3
    rw [he]
    exact hs
  · rintro s ⟨h, ck, ca, cb, cx, cy, F, rfl, sA, sB, o, n1, n2, n3⟩
    by_cases c : acts.length ≤ 100
    · have e : min acts.length 100 = acts.length := by omega
      rw [e]
      simp [f8l1e, filt_t]
      exact ⟨_, _, _, rfl⟩
    · have e : min acts.length 100 = 100 := by omega
      have c' : (100 : Int) < acts.length := by omega
      have c2 : 100 < acts.length := by omega
      rw [e]
      simp [f8l1e, filt_t, c', c2]
      exact ⟨_, _, _, rfl⟩
theorem sm_bad (m : Mod) (pe : Int) (ph ts : List (List Int)) (acts : List Act) (hb : frontOk m pe ph ts = false) : ∃ hp c, runL cfg 8 [modV m, mapV pe ph, .t (gl ts), .t (.l (acts.map actC))] [] 0 = some (bv true, hp, c) := by
  have h1 := smallM_call m
  have h2 := small_call ph
  have h3 := small_call ts
  have h4 := @may_call m pe ph ts
  have h5 := awake_call
  unfold frontOk at hb
  rw [runL_pf (fn := f8) rfl rfl]
  simp only [modV, mapV, gl, iv, bv, laysT] at h1 h2 h3 h4 h5
  generalize smallM m = b1 at *
  generalize small ph = b2 at *
  generalize small ts = b3 at *
  generalize newOk m pe ph ts = b4 at *
  cases b1 with
  | false => simp [modV, mapV, laysT, gl, h1, h5, filt_t]
  | true =>
  cases b2 with
  | false => simp [modV, mapV, laysT, gl, h1, h2, h5, filt_t]
  | true =>
  cases b3 with
  | false => simp [modV, mapV, laysT, gl, h1, h2, h3, h5, filt_t]
  | true =>
  cases b4 with
  | false =>
    have h4 := h4 rfl rfl rfl
    simp [modV, mapV, laysT, gl, h1, h2, h3, h4, h5, filt_t]
  | true => cases hb
theorem sm_good (m : Mod) (pe : Int) (ph ts : List (List Int)) (acts : List Act) (ha : ∀ a ∈ acts, FewA a) (hlen : acts.length ≤ 140737488355328) (hb : frontOk m pe ph ts = true) : ∃ hp c, runL cfg 8 [modV m, mapV pe ph, .t (gl ts), .t (.l (acts.map actC))] [] 0 = some (bv true, hp, c) := by
  have a1 := smallM_call m
  have a2 := small_call ph
  have a3 := small_call ts
  have a5 := awake_call
  unfold frontOk at hb
  simp only [Bool.and_eq_true] at hb
  obtain ⟨⟨⟨b1, b2⟩, b3⟩, b4⟩ := hb
  have a4 := may_call (pe := pe) b1 b2 b3
  rw [b1] at a1
  rw [b2] at a2
  rw [b3] at a3
  rw [b4] at a4
  have hph := small_ph b2
  obtain ⟨h1, k1, cf, ca, cb, r1, s1, o1, l1, l2, l3, l4, f1⟩ := new_good (smallM_few b1) (few_small b3) hph b4 [(⟨5, 0, 1⟩, .box 27 [iv pe, .t (gl ph)]), (⟨4, 0, 0⟩, .box 24 [iv m.dim, .t (laysT m)])] 3
  have q1 := fun e k => callEv_h (C := cfg) (s := ⟨e, _, 2⟩) rfl r1 k
  have g5 : h1.get ⟨5, 0, 1⟩ = some (.box 27 [iv pe, .t (gl ph)]) := by rw [f1 _ (by simp)]; rfl
  have g4 : h1.get ⟨4, 0, 0⟩ = some (.box 24 [iv m.dim, .t (laysT m)]) := by rw [f1 _ (by simp)]; rfl
  obtain ⟨h2, k2, cg, cx, cy, r2, s2, o2, l5, l6, l7, l8, f2⟩ := new_good (smallM_few b1) (few_small b3) hph b4 h1 (k1 + 1 + 1 + 1)
  have q2 := fun e k => callEv_h (C := cfg) (s := ⟨e, _, k1 + 1 + 1⟩) rfl r2 k
  have s1' := fls_fr (fls_le s1 (ck' := k1 + 1 + 1 + 1) (by omega)) l8 f2
  have hd : cf ≠ cg ∧ ca ≠ cx ∧ cb ≠ cy := by
    obtain ⟨v, hB, m1, m2, m3, hr⟩ := s1
    omega
  obtain ⟨e9, h9, k9, hL⟩ := sm_loop2 acts cf cg ha (fls_le s1' (ck' := k2 + 1 + 1 + 1 + 1) (by omega)) (fls_le s2 (by omega)) o1 hd.1 hd.2.1 hd.2.2
  clear r1 r2 s1 s2 s1' o1 o2
  simp only [modV, mapV, laysT, gl, il, iv, bv] at a1 a2 a3 a4 a5 q1 q2 g4 g5 hL
  rw [runL_pf (fn := f8) rfl rfl]
  simp [modV, mapV, laysT, gl, a1, a2, a3, a4, a5, q1, q2, g4, g5, hL, filt_t, over]
theorem fleetSame_ev (xs : List V) (h : ArgsFit PP 8 [24, 27, 25, 61] xs) : ∃ hp c, runL cfg 8 xs [] 0 = some (bv true, hp, c) := by
  obtain ⟨v1, r1, rfl, f1, h⟩ := argsFit_cons h
  obtain ⟨v2, r2, rfl, f2, h⟩ := argsFit_cons h
  obtain ⟨v3, r3, rfl, f3, h⟩ := argsFit_cons h
  obtain ⟨v4, r4, rfl, f4, h⟩ := argsFit_cons h
  cases argsFit_nil h
  obtain ⟨m, rfl, -⟩ := a_mod (k := 0) f1
  obtain ⟨pe, ph, rfl, -⟩ := a_map (k := 4) f2
  obtain ⟨ts, rfl, -⟩ := a_intss (k := 5) f3
  obtain ⟨acts, rfl, hl, ha⟩ := a_acts (k := 5) f4
  cases hb : frontOk m pe ph ts with
  | false => exact sm_bad m pe ph ts acts hb
  | true => exact sm_good m pe ph ts acts ha hl hb
end Go.Proofs.YtbocnaoihepjfaaGreat.Pv
end
