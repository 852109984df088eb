/- Calls, as the caller sees them. -/
import Derived.Test.YthkehbdljckbdaaCall1
set_option linter.unusedVariables false
set_option linter.unusedSimpArgs false
namespace Go.Pev
open Go Go.RowKit

section
variable {P : Program} {run : Run} {R : Rl} {w : World} {hp : HP} {dn : Nat → Prop} {me ck d : Nat}

theorem rowsAll_so {R : Rl} {w : World} {hp : HP} {ck : Nat} {dn : Nat → Prop} (hi : HInv R w hp ck dn) {g : Nat} (h : rowsAll R hp g) : R.S g ∨ Own R hp g := by
  obtain ⟨k, ty, sz, els, fz, n, h1, h2⟩ := h
  cases fz with
  | true =>
    rcases hi.ob _ _ h1 with ⟨h3, _⟩ | ⟨g', n', arr, h3, h4, h5, h6, h7, h8, h9, h10, h11⟩
    · rw [h3] at h2; cases h2
    · rw [h3] at h2
      cases h2
      exact .inl (h11 rfl)
  | false => exact .inr ⟨k, _, n, h1, rfl, h2⟩

/-- What a pure call has left. -/
structure PureOut (R : Rl) (w : World) (hp : HP) (ks : List Key) (R' : Rl) (w' : World) (h' : HP) : Prop where
  os : w'.os = w.os
  tape : w'.tape = w.tape
  output : w'.output = w.output
  size : w.heap.size ≤ w'.heap.size
  hold : ∀ g, g < w.heap.size → w'.heap[g]? = w.heap[g]?
  S : ∀ g, R'.S g → (R.S g ∨ rowsAt R hp ks g) ∨ w.heap.size ≤ g
  row : ∀ g, rowsAll R' h' g → (R.S g ∨ rowsAt R hp ks g) ∨ w.heap.size ≤ g
  own : ∀ g, Own R' h' g → w.heap.size ≤ g

theorem pureOut (ks : List Key) {R' : Rl} {w' : World} {h' : HP} {c' : Nat} {dn' : Nat → Prop} (hg : Grow (pureR R hp ks) w [] R' w' h') (hi' : HInv R' w' h' c' dn') : PureOut R w hp ks R' w' h' := by
  have hno : ∀ g, ¬ Own (pureR R hp ks) [] g := by rintro g ⟨k, o, n, h, _⟩; cases h
  have hS : ∀ g, R'.S g → (R.S g ∨ rowsAt R hp ks g) ∨ w.heap.size ≤ g := fun g h => by
    rcases hg.S' g h with h | h | h
    · exact .inl h
    · exact .inr h
    · exact absurd h (hno g)
  have hO : ∀ g, Own R' h' g → w.heap.size ≤ g := fun g h => (hg.own g h).elim id fun h => absurd h (hno g)
  exact ⟨hg.os, hg.tape, hg.output, hg.size, fun g hgg => hg.keep g hgg (hno g), hS, fun g h => (rowsAll_so hi' h).elim (hS g) fun h => .inr (hO g h), hO⟩

theorem call_pure {C : Cfg} (hrun : RunOk P run) (hi : HInv R w hp ck dn) {f : Nat} {args ps : List V} {us : Array Value} (ha : ArgsRep R w us args) (hps : puresOf hp args = some ps) {r : V} {h' : HP} (hr : callPure run f ps = some (r, h')) :
    goodFn P f = true ∧ Calls P f us w (fun e w' => ∃ v R' c', e = .returned v ∧ RepV R' w' v r ∧ HInv R' w' h' c' (fun _ => False) ∧ PureOut R w hp (args.flatMap (keysOf hp)) R' w' h') := by
  unfold callPure at hr
  cases h1 : run f ps [] 0 with
  | none => simp [h1] at hr
  | some x =>
    obtain ⟨r1, h1', c1⟩ := x
    simp [h1] at hr
    obtain ⟨rfl, rfl⟩ := hr
    obtain ⟨l1, l2⟩ := puresOf_rep hi (args.flatMap (keysOf hp)) (f := fun j => us.getD j undef) args ps 0 (fun j v hv => by rw [Nat.zero_add]; exact ha.2 j v hv) hps (fun k hk => hk)
    obtain ⟨g1, g2⟩ := hrun f ps [] 0 r1 h1' c1 h1 (pureR R hp (args.flatMap (keysOf hp))) w us (pureR_inv hi _) ⟨by rw [l1, ha.1], fun j v hv => by have := l2 j v hv; rwa [Nat.zero_add] at this⟩
    refine ⟨g1, g2.mono ?_⟩
    rintro e w' ⟨v, R', he, hv, hg, hinv⟩
    exact ⟨v, R', c1, he, hv, hinv, pureOut _ hg hinv⟩

theorem callEv_out {C : Cfg} (hrun : RunOk P run) {s : St} (hi : HInv R w s.hp s.ck dn) (hd : ¬ dn me) {f : Nat} {args : List V} {us : Array Value} (ha : ArgsRep R w us args) {r : V} {h' : HP} {ck' : Nat} (hr : callEv C run f args s ⟨d, s.ck, me⟩ = some (r, h', ck')) :
    goodFn P f = true ∧ Calls P f us w (CPost R w s.hp r h' ck' (plus dn me)) := by
  unfold callEv at hr
  by_cases hm : C.hpm f = true
  · rw [if_pos hm] at hr
    cases h1 : run f args s.hp (s.ck + 1) with
    | none => simp [h1] at hr
    | some x =>
      obtain ⟨r1, h1', c1⟩ := x
      simp [h1] at hr
      obtain ⟨rfl, rfl, rfl⟩ := hr
      obtain ⟨g1, g2⟩ := hrun f args s.hp (s.ck + 1) r1 h1' c1 h1 R w us (hi.ck _ (by omega) _) ha
      refine ⟨g1, g2.mono ?_⟩
      rintro e w' ⟨v, R', he, hv, hg, hinv⟩
      exact ⟨v, R', he, hv, hg, hinv.ck _ (by omega) _⟩
  · rw [if_neg hm] at hr
    cases hps : puresOf s.hp args with
    | none => simp [hps] at hr
    | some ps =>
      simp only [hps] at hr
      cases hcp : callPure run f ps with
      | none => simp [hcp] at hr
      | some x =>
        obtain ⟨r1, h1'⟩ := x
        simp only [hcp] at hr
        obtain ⟨g1, g2⟩ := call_pure (C := C) hrun hi ha hps hcp
        refine ⟨g1, g2.mono ?_⟩
        rintro e w' ⟨v, R', c', he, hv, hinv, po⟩
        obtain ⟨Ra, m1, m2, m3, f1, f2⟩ := freezeAll_step (args.flatMap (keysOf s.hp)) hi
        have hSz : ∀ g, R'.S g → g < w'.heap.size := hinv.sS
        split at hr
        · rename_i k sz off n hown
          split at hr
          · rename_i ty sz' els hk
            by_cases hc : sz' = sz ∧ off = 0 ∧ n = els.length
            · rw [if_pos hc] at hr
              cases hr
              obtain ⟨rfl, rfl, rfl⟩ := hc
              have hob := hinv.ob _ _ hk
              rcases repV_ow hv with ⟨g, tot, A, cap, rfl, hμ, hl, hcap, hA⟩ | ⟨rfl, hμ, _, hl0⟩
              · rcases hob with ⟨b1, _⟩ | ⟨g', n', arr, b1, b2, b3, b4, b5, b6, b7, b8, _⟩
                · rw [hμ] at b1; cases b1
                · rw [hμ] at b1
                  cases b1
                  obtain rfl : cap = tot := by omega
                  have hgo : Own R' h1' g := ⟨k, _, _, hk, rfl, hμ⟩
                  obtain ⟨s1, s2⟩ := take_step (w' := w') f2 hd ⟨d, s.ck, me⟩ ⟨rfl, rfl⟩ (some (g, cap)) (.row ty sz' els false) (fun g => R'.S g ∧ w.heap.size ≤ g) po.os po.tape po.output po.size po.hold (fun g h => ⟨h.2, hSz g h.1⟩) (fun g' n' h hq => by cases h; exact (hinv.own _ hgo).1 hq.1) (fun g' n' h => by cases h; exact po.own _ hgo)
                    (fun hag => .inr ⟨g, cap, arr, updμ_same _ _ _, b2, b3, b4, b5, b6, b7, fun i j t ht => (b8 i j t ht).mono (fun g hg => (po.S g hg).elim (fun h => .inl ((m3 g).2 h)) (fun h => .inr ⟨hg, h⟩)) (fun _ _ => rfl), by simp⟩)
                  exact ⟨_, _, he, .ow _ _ _ _ g cap A cap (updμ_same _ _ _) hl (by omega) hA, f1.trans s1, s2⟩
              · have hel : els = [] := List.eq_nil_of_length_eq_zero hl0
                subst hel
                obtain ⟨s1, s2⟩ := take_step (w' := w') f2 hd ⟨d, s.ck, me⟩ ⟨rfl, rfl⟩ none (.row ty sz' [] false) (fun g => R'.S g ∧ w.heap.size ≤ g) po.os po.tape po.output po.size po.hold (fun g h => ⟨h.2, hSz g h.1⟩) (fun g' n' h => by cases h) (fun g' n' h => by cases h)
                    (fun hag => .inl ⟨updμ_same _ _ _, rfl⟩)
                exact ⟨_, _, he, .owv _ _ (updμ_same _ _ _), f1.trans s1, s2⟩
            · rw [if_neg hc] at hr; cases hr
          · cases hr
        · rename_i r1 _ _ _
          cases hro : resOf h1' r1 with
          | none => simp [hro] at hr
          | some r' =>
            simp only [hro] at hr
            by_cases hfl : flatV r' = true
            · rw [if_pos hfl] at hr
              cases hr
              obtain ⟨s1, s2⟩ := newS_step (w' := w') hi (fun _ => False) po.os po.tape po.output po.size po.hold (by rintro g ⟨⟩)
              exact ⟨v, _, he, flatV_rep (resOf_rep hinv (S' := fun _ => True) (fun _ _ => trivial) (fun _ _ => trivial) (fun _ => False) (fun _ => none) hv hro) hfl, s1, s2.plus me⟩
            · rw [if_neg hfl] at hr
              cases hr
              obtain ⟨s1, s2⟩ := newS_step (w' := w') f2 (fun g => (R'.S g ∨ rowsAll R' h1' g) ∧ w.heap.size ≤ g) po.os po.tape po.output po.size po.hold (by
                rintro g ⟨h | h, h2⟩
                · exact ⟨h2, hSz g h⟩
                · obtain ⟨k, ty, sz, els, fz, n, h3, h4⟩ := h
                  exact ⟨h2, (hinv.ob _ _ h3).lt h4⟩)
              refine ⟨v, _, he, ?_, f1.trans s1, s2.plus me⟩
              exact resOf_rep hinv (S' := (Ra.withS fun g => (R'.S g ∨ rowsAll R' h1' g) ∧ w.heap.size ≤ g).S) (fun g hg => (po.S g hg).elim (fun h => .inl ((m3 g).2 h)) (fun h => .inr ⟨.inl hg, h⟩)) (fun g hg => (po.row g hg).elim (fun h => .inl ((m3 g).2 h)) (fun h => .inr ⟨.inr hg, h⟩)) _ _ hv hro

theorem fresh_tree {R : Rl} {w : World} {h : HP} {c : Nat} {dn : Nat → Prop} (hi : HInv R w h c dn) {v : Value} {k : Key} {sz off n ty sz2 : Nat} {els : List (List T)} (hv : RepV R w v (.ow k sz off n)) (hk : h.get k = some (.row ty sz2 els false)) {t : T} (ht : treeOf h (.ow k sz off n) = some t) (hfl : (els.all fun c => c.all flatT) = true) {S' : Nat → Prop} (hS : ∀ g m, R.μ k = some (some (g, m)) → S' g) : RepT S' w v t := by
  have h1 := treeOf_rep (S' := fun _ => True) hi (fun _ _ => trivial) hv ht (fun _ _ => trivial)
  have ht2 := ht
  unfold treeOf at ht2
  simp only [hk] at ht2
  split at ht2
  · cases ht2
    have hflat : ∀ i j x, at2 ((els.drop off).take n) i j = some x → flatT x = true := by
      intro i j x hx
      obtain ⟨c, hc1, hc2⟩ := at2_elim hx
      have hc : c ∈ els := List.mem_of_mem_drop (List.mem_of_mem_take (List.mem_of_getElem? hc1))
      exact List.all_eq_true.1 (List.all_eq_true.1 hfl c hc) x (List.mem_of_getElem? hc2)
    cases h1 with
    | l A m cp xs sz3 g o f hl hc hA hSx hsz hcell hrep =>
      refine .l A _ cp _ sz3 g o f hl hc hA (fun h0 => ?_) hsz hcell (fun i j x hx => flatT_rep (hrep i j x hx) (hflat i j x hx))
      rcases repV_ow hv with ⟨g', tot, A', cap, he, hμ, hl', hcap, hA'⟩ | ⟨he, hμ, _, hl0⟩
      · cases he
        have e1 := hA h0
        have e2 := hA' (by omega)
        rw [e1] at e2
        cases e2
        exact hS _ _ hμ
      · cases he
        exact absurd h0 (by omega)
  · cases ht2

theorem callQ_out (hrun : RunOk P run) (hi : HInv R w hp ck dn) {f : Nat} {args : List V} {us : Array Value} (ha : ArgsRep R w us args) {r : V} (hr : callQ run f args hp = some r) :
    goodFn P f = true ∧ Calls P f us w (CPost R w hp r hp ck (plus dn me)) := by
  unfold callQ at hr
  cases hps : puresOf hp args with
  | none => simp [hps] at hr
  | some ps =>
    simp only [hps] at hr
    cases hcp : callPure run f ps with
    | none => simp [hcp] at hr
    | some x =>
      obtain ⟨r1, h1'⟩ := x
      simp only [hcp] at hr
      cases hro : resOf h1' r1 with
      | none => simp [hro] at hr
      | some r' =>
        simp only [hro] at hr
        by_cases hfl : (flatV r' || (args.flatMap (keysOf hp)).isEmpty || freshR h1' r1) = true
        · rw [if_pos hfl] at hr
          cases hr
          obtain ⟨g1, g2⟩ := call_pure (C := ⟨fun _ => none, fun _ => false, fun _ => false, fun _ => none⟩) hrun hi ha hps hcp
          refine ⟨g1, g2.mono ?_⟩
          rintro e w' ⟨v, R', c', he, hv, hinv, po⟩
          by_cases hf : flatV r = true
          · obtain ⟨s1, s2⟩ := newS_step (w' := w') hi (fun _ => False) po.os po.tape po.output po.size po.hold (by rintro g ⟨⟩)
            exact ⟨v, _, he, flatV_rep (resOf_rep hinv (S' := fun _ => True) (fun _ _ => trivial) (fun _ _ => trivial) (fun _ => False) (fun _ => none) hv hro) hf, s1, s2.plus me⟩
          · by_cases hfr : freshR h1' r1 = true
            · unfold freshR at hfr
              split at hfr
              · rename_i k sz off n
                split at hfr
                · rename_i ty sz2 els hk
                  have ht : ∃ t, treeOf h1' (.ow k sz off n) = some t ∧ r = .t t := by
                    unfold resOf at hro
                    simp only [resOf1] at hro
                    obtain ⟨t, h1, h2⟩ := Option.map_eq_some_iff.1 hro
                    exact ⟨t, h1, h2.symm⟩
                  obtain ⟨t, ht1, rfl⟩ := ht
                  obtain ⟨s1, s2⟩ := newS_step (w' := w') hi (fun g => (∃ m, R'.μ k = some (some (g, m))) ∧ w.heap.size ≤ g) po.os po.tape po.output po.size po.hold (by
                    rintro g ⟨⟨m, hm⟩, h2⟩
                    exact ⟨h2, (hinv.ob _ _ hk).lt hm⟩)
                  refine ⟨v, _, he, ?_, s1, s2.plus me⟩
                  exact .t (fresh_tree hinv hv hk ht1 hfr (fun g m hm => Or.inr ⟨⟨m, hm⟩, po.own g ⟨k, _, m, hk, rfl, hm⟩⟩))
                · cases hfr
              · cases hfr
            have hk : args.flatMap (keysOf hp) = [] := by
              rcases Bool.or_eq_true_iff.1 hfl with h | h
              · rcases Bool.or_eq_true_iff.1 h with h | h
                · exact absurd h hf
                · exact List.isEmpty_iff.1 h
              · exact absurd h hfr
            rw [hk] at po
            have hno : ∀ g, ¬ rowsAt R hp [] g := by rintro g ⟨k, hk, _⟩; simp at hk
            obtain ⟨s1, s2⟩ := newS_step (w' := w') hi (fun g => (R'.S g ∨ rowsAll R' h1' g) ∧ w.heap.size ≤ g) po.os po.tape po.output po.size po.hold (by
              rintro g ⟨h | h, h2⟩
              · exact ⟨h2, hinv.sS g h⟩
              · obtain ⟨k, ty, sz, els, fz, n, h3, h4⟩ := h
                exact ⟨h2, (hinv.ob _ _ h3).lt h4⟩)
            refine ⟨v, _, he, ?_, s1, s2.plus me⟩
            exact resOf_rep hinv (S' := (R.withS fun g => (R'.S g ∨ rowsAll R' h1' g) ∧ w.heap.size ≤ g).S) (fun g hg => (po.S g hg).elim (fun h => .inl (h.resolve_right (hno g))) (fun h => .inr ⟨.inl hg, h⟩)) (fun g hg => (po.row g hg).elim (fun h => .inl (h.resolve_right (hno g))) (fun h => .inr ⟨.inr hg, h⟩)) _ _ hv hro
        · rw [if_neg hfl] at hr; cases hr

theorem callFunc_run {f : FuncId} (hg : goodFn P f = true) (us : Array Value) (w : World) : (callFunc f us).run P w = .ok (.enter f us) w := by
  unfold goodFn at hg
  cases hf : P.funcs[f]? with
  | none => simp [hf] at hg
  | some fn =>
    simp [hf] at hg
    obtain ⟨h1, h2⟩ := hg
    have h3 : fn.body.isNone = false := by cases hb : fn.body <;> simp [hb] at h1 ⊢
    have h2' : (fn.name == "runtime.NumGoroutine") = false := by simpa using h2
    simp [callFunc, hf, h2]
    intro h
    simp [h] at h1

theorem enter_out {o : Oper} {a : Act} {f : FuncId} {us : Array Value} (he : (execOp a.eval o).run P w = .ok (.enter f us) w) {r : V} {h' : HP} {ck' : Nat} (hc : Calls P f us w (CPost R w hp r h' ck' (plus dn me))) : Out P o a R w hp dn me r h' ck' := by
  intro next Q hn
  unfold Oper.wp
  rw [he]
  show Calls P f us w _
  refine hc.mono ?_
  rintro e w' ⟨v, R', rfl, hv, hg, hi⟩
  exact hn v w' R' hv hg hi

theorem call_out {C : Cfg} {o : Oper} {a : Act} (hrun : RunOk P run) {s : St} (hi : HInv R w s.hp s.ck dn) (he : EnvRep R w a s.env) (hd : ¬ dn me) {f : FuncId} {as_ : Array Operand} {ts : Array TypeId} {xs : List Opd} (ho : o.op = .call { callee := .value (.func f), args := as_, argTypes := ts }) (hx : compOpds as_.toList = some xs) {r : V} {h' : HP} {ck' : Nat}
    (hr : callEv C run f (xs.map (·.ev s.env)) s ⟨d, s.ck, me⟩ = some (r, h', ck')) : Out P o a R w s.hp dn me r h' ck' := by
  obtain ⟨l1, l2⟩ := opds_rep he _ _ hx
  have ha : ArgsRep R w (as_.map a.eval) (xs.map (·.ev s.env)) := ⟨by simpa using l1, fun j v hv => by
    have := l2 j v hv
    rwa [← Array.toList_map, arr_getD] at this⟩
  obtain ⟨g1, g2⟩ := callEv_out hrun hi hd ha hr
  refine enter_out ?_ g2
  simp [execOp, ho, resolve, Deferred.ofValue, Act.eval, invoke]
  exact callFunc_run g1 _ _

theorem callq_out {o : Oper} {a : Act} {e : Env} (hrun : RunOk P run) (hi : HInv R w hp ck dn) (he : EnvRep R w a e) {f : FuncId} {as_ : Array Operand} {ts : Array TypeId} {xs : List Opd} (ho : o.op = .call { callee := .value (.func f), args := as_, argTypes := ts }) (hx : compOpds as_.toList = some xs) {r : V}
    (hr : callQ run f (xs.map (·.ev e)) hp = some r) : Out P o a R w hp dn me r hp ck := by
  obtain ⟨l1, l2⟩ := opds_rep he _ _ hx
  have ha : ArgsRep R w (as_.map a.eval) (xs.map (·.ev e)) := ⟨by simpa using l1, fun j v hv => by
    have := l2 j v hv
    rwa [← Array.toList_map, arr_getD] at this⟩
  obtain ⟨g1, g2⟩ := callQ_out hrun hi ha hr
  refine enter_out ?_ g2
  simp [execOp, ho, resolve, Deferred.ofValue, Act.eval, invoke]
  exact callFunc_run g1 _ _

theorem callv_out {C : Cfg} {o : Oper} {a : Act} (hrun : RunOk P run) {s : St} (hi : HInv R w s.hp s.ck dn) (he : EnvRep R w a s.env) (hd : ¬ dn me) {t : Tmp} {as_ : Array Operand} {ts : Array TypeId} {xs : List Opd} (ho : o.op = .call { callee := .value (.tmp t), args := as_, argTypes := ts }) (hx : compOpds as_.toList = some xs) {f : FuncId} {caps : List V} (hf : s.env.get t = .fn f caps) {r : V} {h' : HP} {ck' : Nat}
    (hr : callEv C run f (xs.map (·.ev s.env) ++ caps) s ⟨d, s.ck, me⟩ = some (r, h', ck')) : Out P o a R w s.hp dn me r h' ck' := by
  obtain ⟨l1, l2⟩ := opds_rep he _ _ hx
  have hft := he t
  rw [hf] at hft
  generalize hu : a.tmps.getD t undef = u at hft
  cases hft with
  | fn _ arr _ hn hc =>
    have hsz : (as_.map a.eval).size = (xs.map (·.ev s.env)).length := by simpa using l1
    have ha : ArgsRep R w (as_.map a.eval ++ arr) (xs.map (·.ev s.env) ++ caps) := ⟨by rw [Array.size_append, List.length_append, hsz, hn], fun j v hv => by
      rw [getD_append, hsz]
      rw [List.getElem?_append] at hv
      by_cases hj : j < (xs.map (·.ev s.env)).length
      · rw [if_pos hj] at hv ⊢
        have := l2 j v hv
        rwa [← Array.toList_map, arr_getD] at this
      · rw [if_neg hj] at hv ⊢
        exact hc _ _ hv⟩
    obtain ⟨g1, g2⟩ := callEv_out hrun hi hd ha hr
    refine enter_out ?_ g2
    have hev : a.eval (.tmp t) = .func (.func f) #[] arr := hu
    simp [execOp, ho, resolve, Deferred.ofValue, hev, invoke]
    exact callFunc_run g1 _ _
end
end Go.Pev
