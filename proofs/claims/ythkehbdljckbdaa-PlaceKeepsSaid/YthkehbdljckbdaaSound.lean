/- The whole: what the pure evaluator answers, the machine answers. -/
import Derived.Test.YthkehbdljckbdaaReg
set_option linter.unusedVariables false
set_option linter.unusedSimpArgs false
namespace Go.Pev
open Go Go.RowKit

structure CfgOk (P : Program) (C : Cfg) : Prop where
  mixed : P.follows .mixedOrders = true
  pf : ∀ f fn, C.pf f = some fn → (∃ A, compF P A f = some fn) ∧ goodFn P f = true
  ex : ∀ f p, C.ex f = some p → ∀ args h ck r h' ck', p args h ck = some (r, h', ck') → ∀ R w us, HInv R w h ck (fun _ => False) → ArgsRep R w us args → goodFn P f = true ∧ Calls P f us w (CPost R w h r h' ck' (fun _ => False))

def exitOf : Ex → Exit
  | .normal => .normal
  | .exit id => .exit id
  | .ret => .ret

abbrev dn0 : Nat → Prop := fun _ => False

theorem Inv.eqv {R : Rl} {w : World} {a : Act} {s s' : St} {dn : Nat → Prop} {N : Nat} {lo : Bool} (h : Inv R w a s dn N) (he : Eqv lo s s') : Inv R w a s' dn N :=
  ⟨h.df, h.sz, fun t => by rw [← he.env]; exact h.env t, by rw [← he.ck]; exact h.hi.hpe he.hp⟩

theorem own_filter {R : Rl} {hp : HP} {p : Key → Bool} {g : Nat} (h : Own R (hp.filter fun x => p x.1) g) : Own R hp g := by
  obtain ⟨k, o, n, h1, h2, h3⟩ := h
  rw [HP.get_filter] at h1
  by_cases hk : p k = true
  · rw [if_pos hk] at h1; exact ⟨k, o, n, h1, h2, h3⟩
  · rw [if_neg hk] at h1; cases h1

theorem get_filter_some {hp : HP} {p : Key → Bool} {k : Key} {o : Ob} (h : HP.get (hp.filter fun x => p x.1) k = some o) : hp.get k = some o := by
  rw [HP.get_filter] at h
  by_cases hk : p k = true
  · rwa [if_pos hk] at h
  · rw [if_neg hk] at h; cases h

theorem end_inv {R : Rl} {w : World} {a : Act} {s : St} {dn : Nat → Prop} {N : Nat} (h : Inv R w a s dn N) (kill killH : List Nat) : Inv R w a (endReg kill killH s) dn0 N ∧ Grow R w s.hp R w (endReg kill killH s).hp := by
  refine ⟨⟨h.df, h.sz, fun t => ?_, ?_⟩, ⟨rfl, rfl, rfl, Nat.le_refl _, fun _ _ _ => rfl, fun _ h => h, rfl, fun _ _ h => h, fun _ h => .inl h, fun g hg => .inr (own_filter (p := fun k => !killH.contains k.s) hg)⟩⟩
  · simp only [endReg, Env.get_keep]
    by_cases hk : kill.contains t = true
    · rw [if_pos hk]; exact h.env t
    · rw [if_neg hk]; exact .un _
  · constructor
    · exact fun k o ho => h.hi.ob k o (get_filter_some (p := fun k => !killH.contains k.s) ho)
    · exact fun k1 k2 o1 o2 g n1 n2 h1 h2 => h.hi.sep k1 k2 o1 o2 g n1 n2 (get_filter_some (p := fun k => !killH.contains k.s) h1) (get_filter_some (p := fun k => !killH.contains k.s) h2)
    · exact fun g hg => h.hi.own g (own_filter (p := fun k => !killH.contains k.s) hg)
    · exact h.hi.sS
    · exact h.hi.sB
    · exact fun k p hk => .inl (by simp only [endReg]; rcases h.hi.fr k p hk with h1 | h1 <;> omega)
    · exact HP.nodup_filter h.hi.nd (fun k => !killH.contains k.s)

theorem envOf_get : ∀ (vs : List V) (i t : Nat), (envOf i vs).get t = if i ≤ t then (vs[t - i]?).getD .un else .un
  | [], i, t => by simp [envOf, Env.get]
  | v :: vs, i, t => by
    simp only [envOf, Env.get]
    by_cases h : i = t
    · subst h; simp
    · rw [if_neg h, envOf_get vs (i + 1) t]
      by_cases h2 : i ≤ t
      · rw [if_pos h2, if_pos (by omega), show t - i = (t - (i + 1)) + 1 by omega, List.getElem?_cons_succ]
      · rw [if_neg h2, if_neg (by omega)]

section
variable {P : Program} {C : Cfg} {R : Rl} {w : World} {a : Act} {s : St} {dn : Nat → Prop} {N : Nat}

theorem load_addr {u : Value} {x : V} (hx : RepV R w u x) {hp : HP} {agg : Bool} {n : Nat} {r : V} (hr : load hp agg n x = some r) : ∃ ad, u = .pointer (some ad) := by
  unfold load at hr
  split at hr
  · cases hx; exact ⟨_, rfl⟩
  · cases hx; exact ⟨_, rfl⟩
  · cases hr

def resG (tmps : Array Value) : ResultVar → Sem Value
  | .tmp t => pure (tmps.getD t undef)
  | .cell x t => do loadVar t (← asAddr (tmps.getD x undef))

theorem resultsL_sound (hi : Inv R w a s dn N) : ∀ (l : List ResultVar) (rs : List Pres) (vs : List V), compRes P l = some rs → resultsL s rs = some vs →
    ∃ us : List Value, (l.mapM (resG a.tmps)).run P w = .ok us w ∧ us.length = vs.length ∧ ∀ j v, vs[j]? = some v → RepV R w (us.getD j undef) v
  | [], rs, vs, hc, hr => by
    simp [compRes] at hc
    subst hc
    simp [resultsL] at hr
    subst hr
    exact ⟨[], by simp, rfl, by simp⟩
  | .tmp t :: l, rs, vs, hc, hr => by
    simp only [compRes] at hc
    obtain ⟨rs', hc', rfl⟩ := mapS hc
    simp only [resultsL, results1] at hr
    cases h2 : resultsL s rs' with
    | none => simp [h2] at hr
    | some ws =>
      simp [h2] at hr
      subst hr
      obtain ⟨us, u1, u2, u3⟩ := resultsL_sound hi l rs' ws hc' h2
      refine ⟨a.tmps.getD t undef :: us, by rw [List.mapM_cons]; simp [resG, u1], by simp [u2], fun j v hv => ?_⟩
      cases j with
      | zero => simp at hv; subst hv; simpa using hi.env t
      | succ j => simpa using u3 j v (by simpa using hv)
  | .cell x t :: l, rs, vs, hc, hr => by
    simp only [compRes] at hc
    split at hc
    · rename_i ag n rs' h1 h2 hc'
      cases hc
      simp only [resultsL, results1] at hr
      cases h3 : load s.hp ag n (s.env.get x) with
      | none => simp [h3] at hr
      | some v0 =>
        cases h4 : resultsL s rs' with
        | none => simp [h3, h4] at hr
        | some ws =>
          simp [h3, h4] at hr
          subst hr
          obtain ⟨us, u1, u2, u3⟩ := resultsL_sound hi l rs' ws hc' h4
          obtain ⟨z, z1, z2⟩ := load_rep (P := P) hi.hi (hi.env x) h1 h2 h3
          obtain ⟨ad, had⟩ := load_addr (hi.env x) h3
          rw [had] at z1
          have z3 : (loadVar t ad).run P w = .ok z w := by simpa [Instr.loadAt, Instr.sureAddr] using z1
          refine ⟨z :: us, ?_, by simp [u2], fun j v hv => ?_⟩
          · rw [List.mapM_cons]; simp [resG, u1, had, asAddr, z3]
          · cases j with
            | zero => simp at hv; subst hv; simpa using z2
            | succ j => simpa using u3 j v (by simpa using hv)
    · cases hc

theorem results_sound (hi : Inv R w a s dn N) {fn : Func} {rs : List Pres} (hc : compRes P fn.results.toList = some rs) {v : V} (hr : results s rs = some v) : ∃ u, (Go.results fn a.tmps).run P w = .ok u w ∧ RepV R w u v := by
  unfold results at hr
  cases h1 : resultsL s rs with
  | none => simp [h1] at hr
  | some vs =>
    rw [h1] at hr
    obtain ⟨us, u1, u2, u3⟩ := resultsL_sound hi _ _ _ hc h1
    have hrun : (Go.results fn a.tmps).run P w = .ok (if h : us.toArray.size = 1 then us.toArray[0] else .tuple us.toArray) w := by
      have hres : Go.results fn a.tmps = (do
          let vs ← fn.results.mapM (resG a.tmps)
          pure (if h : vs.size = 1 then vs[0] else .tuple vs)) := by
        unfold Go.results
        congr
      rw [hres, Sem.run_bind, Array.mapM_eq_mapM_toList]
      simp [u1]
    refine ⟨_, hrun, ?_⟩
    by_cases h : us.toArray.size = 1
    · rw [dif_pos h]
      have hl : us.length = 1 := by simpa using h
      match vs, u2, u3, hr with
      | [v0], _, u3, hr =>
        simp at hr
        subst hr
        have h0 : 0 < us.length := by rw [hl]; exact Nat.one_pos
        have := u3 0 v0 rfl
        rw [List.getD_eq_getElem?_getD, List.getElem?_eq_getElem h0] at this
        simpa using this
      | [], u2, _, _ => simp only [List.length_nil] at u2; omega
      | _ :: _ :: _, u2, _, _ => simp only [List.length_cons] at u2; omega
    · rw [dif_neg h]
      have hne : vs.length ≠ 1 := by rw [← u2]; simpa using h
      have hv : v = .tu vs := by
        match vs, hne, hr with
        | [], _, hr => simp at hr; exact hr.symm
        | [_], hne, _ => simp at hne
        | _ :: _ :: _, _, hr => simp at hr; exact hr.symm
      subst hv
      exact .tu _ _ (by simpa using u2) (fun j v hv => by rw [toArr_getD]; exact u3 j v hv)

theorem wp_loop_nat {Q : Exit → Act → World → Prop} {c : Code} (I : Nat → Act → World → Prop) (round : ∀ n a w, I n a w → c.wp P (Exit.then (fun a' w' => ∃ m, m < n ∧ I m a' w') Q) a w) {n : Nat} {a : Act} {w : World} (h₀ : I n a w) : (Code.loop c).wp P Q a w := by
  intro b k cs
  have key : ∀ n a w, I n a w → ∃ e a' w', Q e a' w' ∧ Arrives P (lone (b.at a (.code c :: .inLoop c :: k)) cs w) b k cs e a' w' := by
    intro n
    induction n using Nat.strongRecOn with
    | _ n ih =>
      intro a w hI
      obtain ⟨e, a₁, w₁, hq, harr⟩ := round n a w hI b (.inLoop c :: k) cs
      cases e with
      | normal =>
        obtain ⟨m, hlt, hI₁⟩ := hq
        obtain ⟨e₂, a₂, w₂, hq₂, harr₂⟩ := ih m hlt a₁ w₁ hI₁
        exact ⟨e₂, a₂, w₂, hq₂, .of_steps (Steps.trans harr (.one step_inLoop)) harr₂⟩
      | exit id => exact ⟨_, a₁, w₁, hq, .pass (x := .inLoop c) rfl (fun _ _ => .inl (by simp)) harr⟩
      | goto l => exact ⟨_, a₁, w₁, hq, .pass (x := .inLoop c) rfl (fun _ _ => .inl (by simp)) harr⟩
      | ret => exact ⟨_, a₁, w₁, hq, .pass (x := .inLoop c) rfl (fun _ _ => .inl (by simp)) harr⟩
      | panic ch => exact ⟨_, a₁, w₁, hq, .pass (x := .inLoop c) rfl (fun _ _ => .inl (by simp)) harr⟩
      | outgrown => exact ⟨_, a₁, w₁, hq, .pass (x := .inLoop c) rfl (fun _ _ => .inl (by simp)) harr⟩
  obtain ⟨e, a', w', hq, harr⟩ := key _ a w h₀
  exact ⟨e, a', w', hq, .of_steps (.one step_loop) harr⟩

def CodeOk (P : Program) (C : Cfg) (n : Nat) : Prop := ∀ (A : Ann) (N : Nat) (c : Code) (pc : Pc), compC P A N c = some pc → ∀ s e s', ev C n pc s = some (e, s') → ∀ R w a Q, Inv R w a s dn0 N → (∀ a' w' R', Inv R' w' a' s' dn0 N → Grow R w s.hp R' w' s'.hp → Q (exitOf e) a' w') → c.wp P Q a w

theorem draw_inv {R : Rl} {w : World} {a : Act} {s : St} {N : Nat} (h : Inv R w a s dn0 N) : Inv R { w with drawn := w.drawn + 1 } a s dn0 N ∧ Grow R w s.hp R { w with drawn := w.drawn + 1 } s.hp := by
  have ha : Agree R w R { w with drawn := w.drawn + 1 } := ⟨fun _ h => h, fun _ h => h, fun _ _ h => h, fun _ _ => rfl, fun _ _ => rfl⟩
  exact ⟨⟨h.df, h.sz, fun t => (h.env t).mono ha, ⟨fun k o ho => (h.hi.ob k o ho).mono ha (fun _ _ _ => rfl), h.hi.sep, h.hi.own, h.hi.sS, h.hi.sB, h.hi.fr, h.hi.nd⟩⟩,
    ⟨rfl, rfl, rfl, Nat.le_refl _, fun _ _ _ => rfl, fun _ h => h, rfl, fun _ _ h => h, fun _ h => .inl h, fun _ h => .inr h⟩⟩

theorem reg_sound (hmx : P.follows .mixedOrders = true) {n : Nat} (hrun : RunOk P (run C n)) {A : Ann} {N id : Nat} {ops : Array Oper} {draw : Bool} {ps : List (Nat × Pop)} (hps : compOps P A N id draw ops 0 ops.toList = some ps) (hdr : (!draw || drawOk ops ps) = true) {kill killH : List Nat} {s s' : St} (hev : evOps C (run C n) ps s = some s') {R : Rl} {w : World} {a : Act} {Q : Exit → Act → World → Prop} (hi : Inv R w a s dn0 N)
    (hQ : ∀ a' w' R', Inv R' w' a' (endReg kill killH s') dn0 N → Grow R w s.hp R' w' (endReg kill killH s').hp → Q .normal a' w') : (Code.region id ops draw).wp P Q a w := by
  obtain ⟨q1, q2⟩ := compOps_q hps
  have hnd : (ps.map Prod.fst).Nodup := by rw [q1]; exact List.nodup_range
  cases draw with
  | false =>
    refine wp_region ?_
    rw [← q1]
    refine ops_sound hrun ps hi q2 hnd (fun _ _ h => h) hev fun a' w' R' dn' h1 h2 => ?_
    obtain ⟨e1, e2⟩ := end_inv h1 kill killH
    exact hQ a' w' R' e1 (h2.trans e2)
  | true =>
    obtain ⟨d1, d2⟩ := draw_inv hi
    simp only [Bool.not_true, Bool.false_or, drawOk, drawOkB, Bool.and_eq_true] at hdr
    obtain ⟨⟨⟨he, hb⟩, hs⟩, hf0⟩ := hdr
    have hf1 : ∃ lo, freeAll lo (Region.before ops) ps = true ∧ (lo = true → ∀ q ∈ ps, okL q.2.op = true) := by
      rcases Bool.or_eq_true_iff.1 hf0 with h | h
      · exact ⟨false, h, fun e => by cases e⟩
      · rw [Bool.and_eq_true] at h
        exact ⟨true, h.1, fun _ q hq => List.all_eq_true.1 h.2 q hq⟩
    obtain ⟨lo, hf, hok⟩ := hf1
    have hany : wpAny P .any ops Q ops.size (Array.replicate ops.size false) a { w with drawn := w.drawn + 1 } := by
      have hl : ps.length = ops.size := by have := congrArg List.length q1; simpa using this
      refine any_sound hrun he hb hs ops.size ps (Array.replicate ops.size false) hl.symm (by simp) ?_ ?_ hnd hf hok d1 q2 (fun _ _ h => h) hev fun a' w' R' dn' s'' h1 h2 h3 => ?_
      · intro i o ho hli
        have := (Array.getElem?_eq_some_iff.1 ho).1
        rw [Array.getD_eq_getD_getElem?, Array.getElem?_replicate, if_pos this] at hli
        cases hli
      · intro i
        rw [q1]
        simp only [List.mem_range]
        constructor
        · intro h
          refine ⟨h, ?_⟩
          rw [Array.getD_eq_getD_getElem?, Array.getElem?_replicate, if_pos h]
          rfl
        · exact fun h => h.1
      · obtain ⟨e1, e2⟩ := end_inv (h2.eqv h1.symm) kill killH
        refine hQ a' w' R' e1 (d2.trans ?_)
        exact (h3.hpe h1.hp.symm).trans e2
    exact wp_region_any hmx hany

theorem code_step (hmx : P.follows .mixedOrders = true) {n : Nat} (hrun : RunOk P (run C n)) (ih : ∀ m, m ≤ n → CodeOk P C m) : CodeOk P C (n + 1) := by
  intro A N c pc hc s e s' hev R w a Q hi hQ
  have ihn := ih n (Nat.le_refl _)
  cases c with
  | skip =>
    simp [compC] at hc; subst hc
    simp [ev, evStep] at hev
    obtain ⟨rfl, rfl⟩ := hev
    exact wp_skip (hQ a w R hi (Grow.refl _ _ _))
  | exit id =>
    simp [compC] at hc; subst hc
    simp [ev, evStep] at hev
    obtain ⟨rfl, rfl⟩ := hev
    exact wp_exit (hQ a w R hi (Grow.refl _ _ _))
  | ret =>
    simp [compC] at hc; subst hc
    simp [ev, evStep] at hev
    obtain ⟨rfl, rfl⟩ := hev
    exact wp_ret (hQ a w R hi (Grow.refl _ _ _))
  | region id ops draw =>
    simp only [compC] at hc
    split at hc
    · rename_i ps hps
      split at hc
      · rename_i hd
        cases hc
        simp only [ev, evStep] at hev
        cases h1 : evOps C (run C n) ps s with
        | none => simp [h1] at hev
        | some s1 =>
          simp [h1] at hev
          obtain ⟨rfl, rfl⟩ := hev
          exact reg_sound hmx hrun hps hd h1 hi hQ
      · cases hc
    · cases hc
  | seq x y =>
    simp only [compC] at hc
    split at hc
    · rename_i px py hx hy
      cases hc
      simp only [ev, evStep] at hev
      refine wp_seq ?_
      cases h1 : ev C n px s with
      | none => simp [h1, thenC] at hev
      | some r =>
        obtain ⟨e1, s1⟩ := r
        refine ihn A N x px hx s e1 s1 h1 R w a _ hi fun a' w' R' h2 h3 => ?_
        cases e1 with
        | normal =>
          simp only [h1, thenC] at hev
          exact ihn A N y py hy s1 e s' hev R' w' a' Q h2 (fun a2 w2 R2 h4 h5 => hQ a2 w2 R2 h4 (h3.trans h5))
        | exit id => simp [h1, thenC] at hev; obtain ⟨rfl, rfl⟩ := hev; exact hQ a' w' R' h2 h3
        | ret => simp [h1, thenC] at hev; obtain ⟨rfl, rfl⟩ := hev; exact hQ a' w' R' h2 h3
    · cases hc
  | cond t x y =>
    simp only [compC] at hc
    split at hc
    · rename_i t' px py ht hx hy
      cases hc
      simp only [ev, evStep] at hev
      have ht' := opd_rep hi.env ht
      split at hev
      · rename_i hb
        rw [hb] at ht'
        exact wp_cond_true (repV_b ht') (ihn A N x px hx s e s' hev R w a Q hi hQ)
      · rename_i hb
        rw [hb] at ht'
        exact wp_cond_false (repV_b ht') (ihn A N y py hy s e s' hev R w a Q hi hQ)
      · cases hev
    · cases hc
  | block id c =>
    simp only [compC] at hc
    obtain ⟨pc', hc', rfl⟩ := mapS hc
    simp only [ev, evStep] at hev
    refine wp_block ?_
    cases h1 : ev C n pc' s with
    | none => simp [h1, blockC] at hev
    | some r =>
      obtain ⟨e1, s1⟩ := r
      refine ihn A N c pc' hc' s e1 s1 h1 R w a _ hi fun a' w' R' h2 h3 => ?_
      cases e1 with
      | normal => simp [h1, blockC] at hev; obtain ⟨rfl, rfl⟩ := hev; exact hQ a' w' R' h2 h3
      | ret => simp [h1, blockC] at hev; obtain ⟨rfl, rfl⟩ := hev; exact hQ a' w' R' h2 h3
      | exit i =>
        simp only [h1, blockC] at hev
        show (if i = id then Q .normal a' w' else Q (.exit i) a' w')
        by_cases hid : i = id
        · rw [if_pos hid] at hev ⊢
          cases hev
          exact hQ a' w' R' h2 h3
        · rw [if_neg hid] at hev ⊢
          cases hev
          exact hQ a' w' R' h2 h3
  | loop c =>
    simp only [compC] at hc
    obtain ⟨pc', hc', rfl⟩ := mapS hc
    refine wp_loop_nat (n := n + 1) (fun k a1 w1 => k ≤ n + 1 ∧ ∃ s1 R1, ev C k (.loop pc') s1 = some (e, s') ∧ Inv R1 w1 a1 s1 dn0 N ∧ Grow R w s.hp R1 w1 s1.hp) ?_ ⟨Nat.le_refl _, s, R, hev, hi, Grow.refl _ _ _⟩
    rintro k a1 w1 ⟨hk, s1, R1, h1, h2, h3⟩
    cases k with
    | zero => simp [ev] at h1
    | succ k =>
      simp only [ev, evStep] at h1
      cases h4 : ev C k pc' s1 with
      | none => simp [h4, thenC] at h1
      | some r =>
        obtain ⟨e2, s2⟩ := r
        refine ih k (by omega) A N c pc' hc' s1 e2 s2 h4 R1 w1 a1 _ h2 fun a' w' R' h5 h6 => ?_
        cases e2 with
        | normal =>
          simp only [h4, thenC] at h1
          exact ⟨k, by omega, by omega, s2, R', h1, h5, h3.trans h6⟩
        | exit id => simp [h4, thenC] at h1; obtain ⟨rfl, rfl⟩ := h1; exact hQ a' w' R' h5 (h3.trans h6)
        | ret => simp [h4, thenC] at h1; obtain ⟨rfl, rfl⟩ := h1; exact hQ a' w' R' h5 (h3.trans h6)
  | _ => simp [compC] at hc

theorem run_step (hC : CfgOk P C) {n : Nat} (hrun : RunOk P (run C n)) (hcode : CodeOk P C n) : RunOk P (run C (n + 1)) := by
  intro f args h ck r h' ck' hr R w us hi ha
  simp only [run, runWith] at hr
  cases hx : C.ex f with
  | some p =>
    rw [hx] at hr
    exact hC.ex f p hx args h ck r h' ck' hr R w us hi ha
  | none =>
    rw [hx] at hr
    simp only at hr
    cases hf : C.pf f with
    | none => simp [hf] at hr
    | some pfn =>
      rw [hf] at hr
      simp only [runFn] at hr
      obtain ⟨⟨A, hcf⟩, hg⟩ := hC.pf f pfn hf
      refine ⟨hg, ?_⟩
      unfold compF at hcf
      split at hcf
      · rename_i fn hfn
        split at hcf
        · rename_i c hb
          split at hcf
          · rename_i pb rs hpb hrs
            split at hcf
            · rename_i hnp
              cases hcf
              by_cases hl : args.length = fn.params.size + fn.nfree
              · rw [if_pos hl] at hr
                have hus : us.size = fn.params.size + fn.nfree := by rw [ha.1, hl]
                have hinv : Inv R w { tmps := us ++ Array.replicate (fn.ntmps - us.size) undef, defers := [] } ⟨envOf 0 args, h, ck⟩ dn0 fn.ntmps := by
                  refine ⟨rfl, by simp; omega, fun t => ?_, hi⟩
                  simp only [envOf_get, Nat.zero_le, if_true, Nat.sub_zero]
                  cases hv : args[t]? with
                  | none => exact .un _
                  | some v =>
                    have hlt : t < us.size := by rw [ha.1]; exact (List.getElem?_eq_some_iff.1 hv).1
                    have := ha.2 t v hv
                    rw [getD_append, if_pos hlt]
                    exact this
                have hfin : ∀ e s1, ev C n pb ⟨envOf 0 args, h, ck⟩ = some (e, s1) → (e = .normal ∨ e = .ret) → results s1 rs = some r → s1.hp = h' → s1.ck = ck' → Calls P f us w (CPost R w h r h' ck' (fun _ => False)) := by
                  rintro e s1 he hee hres rfl rfl
                  refine calls_of_wp hfn hb (hcode A fn.ntmps c pb hpb _ e s1 he R w _ _ hinv fun a' w' R' h1 h2 => ?_)
                  obtain ⟨u, u1, u2⟩ := results_sound h1 hrs hres
                  rcases hee with rfl | rfl
                  · exact ⟨h1.df, u, u1, u, R', rfl, u2, h2, h1.hi⟩
                  · exact ⟨h1.df, u, u1, u, R', rfl, u2, h2, h1.hi⟩
                split at hr
                · rename_i s1 he
                  obtain ⟨v, hv, h2⟩ := mapS hr
                  cases h2
                  exact hfin _ _ he (.inl rfl) hv rfl rfl
                · rename_i s1 he
                  obtain ⟨v, hv, h2⟩ := mapS hr
                  cases h2
                  exact hfin _ _ he (.inr rfl) hv rfl rfl
                · cases hr
              · rw [if_neg hl] at hr; cases hr
            · cases hcf
          · cases hcf
        · cases hcf
      · cases hcf

/-- Soundness. -/
theorem all_ok (hC : CfgOk P C) : ∀ n, RunOk P (run C n) ∧ ∀ m, m ≤ n → CodeOk P C m
  | 0 => by
    refine ⟨fun f args h ck r h' ck' hr => by simp [run] at hr, fun m hm => ?_⟩
    obtain rfl : m = 0 := by omega
    intro A N c pc hc s e s' hev
    simp [ev] at hev
  | n + 1 => by
    obtain ⟨h1, h2⟩ := all_ok hC n
    refine ⟨run_step hC h1 (h2 n (Nat.le_refl _)), fun m hm => ?_⟩
    rcases Nat.lt_or_ge m (n + 1) with h | h
    · exact h2 m (by omega)
    · obtain rfl : m = n + 1 := by omega
      exact code_step hC.mixed h1 h2
end
end Go.Pev
