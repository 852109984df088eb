/- The machine's operations against the pure evaluator's: stores, append, build, bytes to a string. -/
import Derived.Test.YthkehbdljckbdaaOps5
import Derived.Laws.AppendOwn
import Derived.Laws.BytesString
import Derived.Laws.Tables
set_option linter.unusedVariables false
set_option linter.unusedSimpArgs false
namespace Go.Pev
open Go Go.RowKit

theorem vkeys_sub {hp : HP} {v : V} {cs : List V} (h5 : cells v = some cs) {k : Key} (hk : k ∈ cs.flatMap vkeys) : k ∈ keysOf hp v := by
  obtain ⟨u, hv1, hv2⟩ := List.mem_flatMap.1 hk
  cases v with
  | ow k' s' o' l' =>
    simp [cells] at h5
    subst h5
    simp at hv1
    subst hv1
    simpa [vkeys, keysOf] using hv2
  | ag cs' =>
    simp [cells] at h5
    subst h5
    refine List.mem_flatMap.2 ⟨u, hv1, ?_⟩
    cases u <;> simp [vkeys] at hv2 <;> simpa [keysOf1] using hv2
  | t _ => simp [cells] at h5; subst h5; simp at hv1; subst hv1; simp [vkeys] at hv2
  | nl => simp [cells] at h5; subst h5; simp at hv1; subst hv1; simp [vkeys] at hv2
  | nn => simp [cells] at h5; subst h5; simp at hv1; subst hv1; simp [vkeys] at hv2
  | nz => simp [cells] at h5; subst h5; simp at hv1; subst hv1; simp [vkeys] at hv2
  | pt _ _ _ _ => simp [cells] at h5; subst h5; simp at hv1; subst hv1; simp [vkeys] at hv2
  | pr _ => simp [cells] at h5; subst h5; simp at hv1; subst hv1; simp [vkeys] at hv2
  | fn _ _ => simp [cells] at h5; subst h5; simp at hv1; subst hv1; simp [vkeys] at hv2
  | tu _ => simp [cells] at h5
  | ud => simp [cells] at h5
  | un => simp [cells] at h5

/-- Cells that are written in the midst of others. -/
theorem splice_get (cur vs : List Value) (q j : Nat) (h : q + vs.length ≤ cur.length) : (cur.take q ++ vs ++ cur.drop (q + vs.length)).toArray.getD j undef = if q ≤ j ∧ j < q + vs.length then vs.getD (j - q) undef else cur.getD j undef := by
  rw [Array.getD_eq_getD_getElem?, List.getElem?_toArray, List.getD_eq_getElem?_getD, List.getD_eq_getElem?_getD, List.append_assoc, List.getElem?_append, List.getElem?_append]
  have hl : (cur.take q).length = q := by simp; omega
  rw [hl]
  by_cases h1 : j < q
  · rw [if_pos h1, if_neg (by omega), List.getElem?_take, if_pos h1]
  · rw [if_neg h1]
    by_cases h2 : j - q < vs.length
    · rw [if_pos h2, if_pos (by omega)]
    · rw [if_neg h2, if_neg (by omega), List.getElem?_drop, show q + vs.length + (j - q - vs.length) = j by omega]
theorem splice_size (cur vs : List Value) (q : Nat) (h : q + vs.length ≤ cur.length) : (cur.take q ++ vs ++ cur.drop (q + vs.length)).toArray.size = cur.length := by
  simp; omega

theorem setRow_hold (w : World) (g : Nat) (cs : Array Value) (q : Nat) (h : q ≠ g) : (w.setRow g cs).heap[q]? = w.heap[q]? := setRow_other w g q cs h

theorem RowAt.set {w : World} {g : Nat} {arr A : Array Value} {ty : TypeId} (h : RowAt w g arr ty) (hs : A.size = arr.size) : RowAt (w.setRow g A) g A ty := by
  obtain ⟨mk, h1, h2⟩ := h
  exact ⟨mk, setRow_heap w g arr A ty mk h1, fun j hj => h2 j (by omega)⟩
theorem run_storeCells_row (P : Program) (g o : Nat) (t : TypeId) : ∀ (vs : List Value) (i : Nat) (cur : Array Value) (w : World), RowAt w g cur t → o + i + vs.length ≤ cur.size → (∀ v ∈ vs, v.oneCell' = true) →
    (storeCells ⟨g, o, none⟩ vs i).run P w = .ok () (w.setRow g (cur.toList.take (o + i) ++ vs ++ cur.toList.drop (o + i + vs.length)).toArray)
  | [], i, cur, w, hg, _, _ => by
    obtain ⟨mk, h1, _⟩ := hg
    simp only [storeCells, List.append_nil, List.length_nil, Nat.add_zero, List.take_append_drop, Array.toArray_toList]
    rw [setRow_self w g cur t mk h1]
    rfl
  | v :: rest, i, cur, w, hg, hl, h1 => by
    have hi : o + i < cur.size := by simp at hl; omega
    have hadd : (⟨g, o, none⟩ : Addr).add i = ⟨g, o + i, none⟩ := by unfold Addr.add; split <;> simp_all
    have hcell : w.cell? ⟨g, o + i, none⟩ = some cur[o + i] := by rw [hg.cell]; simp [hi]
    have hfro : w.frozen? ⟨g, o + i, none⟩ = false := by
      obtain ⟨mk, hm1, hm2⟩ := hg
      have := hm2 (o + i) hi
      simp only [World.frozen?, hm1]
      simp; omega
    have hst : (Go.store ((⟨g, o, none⟩ : Addr).add i) v).run P w = .ok () (w.setRow g (cur.setIfInBounds (o + i) v)) := by
      rw [hadd, run_store P w _ v _ (h1 v (by simp)), hcell]
      obtain ⟨mk, hm1, _⟩ := hg
      simp [hfro, setCell_eq_setRow w g (o + i) cur t mk v hm1]
    have ih := run_storeCells_row P g o t rest (i + 1) (cur.setIfInBounds (o + i) v) (w.setRow g (cur.setIfInBounds (o + i) v)) (hg.set (by simp)) (by simp at hl ⊢; omega) (fun x hx => h1 x (by simp [hx]))
    simp only [storeCells, Sem.run_bind, hst, Result.andThen_ok, ih, setRow_setRow]
    congr 3
    have e := list_seg_step cur.toList (o + i) v rest (by simp at hl ⊢; omega)
    simpa [Array.toList_setIfInBounds, Nat.add_assoc] using e

section
variable {P : Program} {o : Oper} {a : Act} {R : Rl} {w : World} {hp : HP} {dn : Nat → Prop} {me ck d : Nat} {e : Env}

theorem store_run {t : TypeId} {n g q : Nat} (hn : szOf P t = some n) {v : Value} (hv : v.cells.size = n) {cur : Array Value} {ty : TypeId} (hg : RowAt w g cur ty) (hq : q + n ≤ cur.size) (h1 : ∀ j, j < v.cells.size → (v.cells.getD j undef).oneCell' = true) :
    ∃ A : Array Value, A.size = cur.size ∧ (∀ j, A.getD j undef = if q ≤ j ∧ j < q + n then v.cells.getD (j - q) undef else cur.getD j undef) ∧ (Instr.storeAt t (.pointer (some ⟨g, q, none⟩)) v).run P w = .ok () (w.setRow g A) := by
  have hlen : v.cells.toList.length = n := by simpa using hv
  have h := run_storeCells_row P g q ty v.cells.toList 0 cur w hg (by omega) (fun u hu => by
    obtain ⟨j, hj, rfl⟩ := List.getElem_of_mem hu
    have := h1 j (by simpa using hj)
    rwa [Array.getD_eq_getD_getElem?, Array.getElem?_eq_getElem (by simpa using hj), Option.getD_some] at this)
  simp only [Nat.add_zero] at h
  have hcur : q + v.cells.toList.length ≤ cur.toList.length := by rw [hlen, Array.length_toList]; exact hq
  refine ⟨_, (splice_size _ _ _ hcur).trans (Array.length_toList), fun j => ?_, ?_⟩
  · rw [splice_get _ _ _ _ hcur, hlen, arr_getD, arr_getD]
  · simp only [Instr.storeAt, Instr.sureAddr, storeVar, Sem.run_bind, Sem.run_pure, Result.andThen_ok, run_szOf hn]
    rw [if_neg (by simp [hv])]
    simpa using h

theorem store_out (hi : HInv R w hp ck dn) (hd : ¬ dn me) (he : EnvRep R w a e) {t : TypeId} {n : Nat} {x y : Operand} {x' y' : Opd} (ho : o.op = .store t x y) (hn : szOf P t = some n) (hx : compOpd x = some x') (hy : compOpd y = some y') {hp' : HP} (hr : store hp n (y'.ev e) (x'.ev e) = some hp') :
    Out P o a R w hp dn me .un hp' ck := by
  have rx := opd_rep he hx
  have ry := opd_rep he hy
  have hdone : ∀ w', (Instr.storeAt t (a.eval x) (a.eval y)).run P w = .ok () w' → (execOp a.eval o).run P w = .ok .skip w' := by
    intro w' h
    simp only [execOp, ho]
    rw [Sem.run_bind, h]
    rfl
  unfold store at hr
  split at hr
  · rename_i k sz i j h1
    rw [h1] at rx
    cases hv : a.eval x <;> rw [hv] at rx <;> cases rx
    rename_i g n' hμ
    rw [hv] at hdone
    split at hr
    · rename_i ty cs hk
      split at hr
      · rename_i vs hvs
        by_cases hc : i = 0 ∧ vs.length = n ∧ j + n ≤ cs.length
        · rw [if_pos hc] at hr
          cases hr
          obtain ⟨rfl, rfl, hle⟩ := hc
          obtain ⟨c1, c2, c3⟩ := cells_rep ry hvs
          obtain ⟨g', n2, arr, b1, b2, b3, b4, b5⟩ := hi.ob _ _ hk
          rw [hμ] at b1
          cases b1
          rw [Nat.zero_mul, Nat.zero_add] at hdone
          obtain ⟨A, hA1, hA2, hrun⟩ := store_run (P := P) (n := vs.length) (q := j) hn c1 (RowAt.of b2) (by omega) c2
          obtain ⟨s1, s2⟩ := put_step (me := me) (w' := w.setRow g A) hi k k (.box ty cs) (.box ty (over cs j vs)) hk rfl (some (g, n')) (.inl ⟨rfl, hμ⟩) rfl rfl rfl (by simp)
            (fun q hq hne => setRow_hold _ _ _ _ (fun h => hne n' (by rw [h]; exact hμ))) (fun g' n2 h => .inr ⟨n', by cases h; exact hμ⟩) rfl
            (fun ha => ⟨g, n', _, updμ_same _ _ _, setRow_heap _ _ _ _ _ _ b2, by rw [over_length, hA1]; exact b3, fun q hq => by
                rw [hA1] at hq
                rw [hA2]
                by_cases h : j ≤ q ∧ q < j + vs.length
                · rw [if_pos h]; exact c2 _ (by omega)
                · rw [if_neg h]; exact b4 _ hq, fun q v hq => by
                rw [over_get _ _ _ _ hle] at hq
                rw [hA2]
                by_cases h : j ≤ q ∧ q < j + vs.length
                · rw [if_pos h] at hq ⊢; exact (c3 _ _ hq).mono ha
                · rw [if_neg h] at hq ⊢; exact (b5 _ _ hq).mono ha⟩)
          exact Out.of _ _ _ (.inr ⟨hdone _ hrun, rfl⟩) (.un _) s1 s2
        · rw [if_neg hc] at hr; cases hr
      · cases hr
    · split at hr
      · rename_i ts hts
        obtain ⟨R1, m1, m2, m3, f1, f2⟩ := freezeAll_step (keysOf hp (y'.ev e)) hi
        split at hr
        · rename_i ty sz' els hk2
          by_cases hs : sz' = sz
          · rw [if_pos hs] at hr
            subst hs
            split at hr
            · rename_i c hc
              by_cases hcc : ts.length = n ∧ j + n ≤ c.length
              · rw [if_pos hcc] at hr
                cases hr
                obtain ⟨rfl, hle⟩ := hcc
                have hilt := (List.getElem?_eq_some_iff.1 hc).1
                unfold treesC at hts
                cases hvs : cells (y'.ev e) with
                | none => simp [hvs] at hts
                | some vs =>
                  simp only [hvs] at hts
                  obtain ⟨c1, c2, c3⟩ := cells_rep ry hvs
                  obtain ⟨t1, t2⟩ := treesOf_rep (f := fun j => (a.eval y).cells.getD j undef) hi (S' := R1.S) (fun g hg => (m3 g).2 (.inl hg)) vs 0 (fun j v hv => by rw [Nat.zero_add]; exact c3 j v hv) hts (fun g hg => (m3 g).2 (.inr (rowsAt_sub (fun k hk => vkeys_sub hvs hk) g hg)))
                  have hμ1 : R1.μ k = some (some (g, n')) := by rw [m1]; exact hμ
                  rcases f2.ob _ _ hk2 with ⟨h1, _⟩ | ⟨g', tot, arr, b1, b2, b3, b4, b5, b6, b7, b8, _⟩
                  · rw [hμ1] at h1; cases h1
                  · rw [hμ1] at b1
                    cases b1
                    have hcsz := b6 c (List.mem_of_getElem? hc)
                    have hlast : i * sz' + sz' ≤ arr.size := by
                      have : (i + 1) * sz' ≤ n' * sz' := Nat.mul_le_mul_right _ (by omega)
                      rw [Nat.add_mul] at this
                      omega
                    obtain ⟨A, hA1, hA2, hrun⟩ := store_run (P := P) (n := ts.length) (q := i * sz' + j) (v := a.eval y) hn (by omega) b2 (by omega) c2
                    obtain ⟨s1, s2⟩ := put_step (me := me) (w' := w.setRow g A) f2 k k (.row ty sz' els false) (.row ty sz' (els.set i (over c j ts)) false) hk2 rfl (some (g, n')) (.inl ⟨rfl, hμ1⟩) rfl rfl rfl (by simp)
                      (fun q hq hne => setRow_hold _ _ _ _ (fun h => hne n' (by rw [h]; exact hμ1))) (fun g' n2 h => .inr ⟨n', by cases h; exact hμ1⟩) rfl
                      (fun ha => .inr ⟨g, n', _, updμ_same _ _ _, b2.set hA1, by rw [hA1]; exact b3, by simpa using b4, b5, fun q hq => by
                          rcases List.mem_or_eq_of_mem_set hq with h | h
                          · exact b6 q h
                          · rw [h, over_length]; exact hcsz, fun q hq => by
                          rw [hA1] at hq
                          rw [hA2]
                          by_cases h : i * sz' + j ≤ q ∧ q < i * sz' + j + ts.length
                          · rw [if_pos h]; exact c2 _ (by omega)
                          · rw [if_neg h]; exact b7 _ hq, fun i' j' t' ht' => by
                          obtain ⟨q, hq1, hq2⟩ := at2_elim ht'
                          have hj' := (List.getElem?_eq_some_iff.1 hq2).1
                          rw [hA2]
                          rw [List.getElem?_set] at hq1
                          by_cases hii : i = i'
                          · subst hii
                            rw [if_pos rfl, if_pos hilt] at hq1
                            cases hq1
                            rw [over_length] at hj'
                            rw [over_get _ _ _ _ hle] at hq2
                            by_cases h : j ≤ j' ∧ j' < j + ts.length
                            · rw [if_pos h] at hq2
                              rw [if_pos (by omega), show i * sz' + j' - (i * sz' + j) = j' - j by omega]
                              have := t2 _ _ hq2
                              rw [Nat.zero_add] at this
                              exact this.mono ha.S ha.hS
                            · rw [if_neg h] at hq2
                              rw [if_neg (by omega)]
                              exact (b8 _ _ _ (at2_some hc hq2)).mono ha.S ha.hS
                          · rw [if_neg hii] at hq1
                            have hq3 := b6 q (List.mem_of_getElem? hq1)
                            rw [if_neg]
                            · exact (b8 _ _ _ (at2_some hq1 hq2)).mono ha.S ha.hS
                            · intro h
                              rcases Nat.lt_or_gt_of_ne hii with h3 | h3
                              · have : (i + 1) * sz' ≤ i' * sz' := Nat.mul_le_mul_right _ h3
                                rw [Nat.add_mul] at this
                                omega
                              · have : (i' + 1) * sz' ≤ i * sz' := Nat.mul_le_mul_right _ h3
                                rw [Nat.add_mul] at this
                                omega, by simp⟩)
                    exact Out.of _ _ _ (.inr ⟨hdone _ hrun, rfl⟩) (.un _) (f1.trans s1) s2
              · rw [if_neg hcc] at hr; cases hr
            · cases hr
          · rw [if_neg hs] at hr; cases hr
        · cases hr
      · cases hr
    · cases hr
  · cases hr
end
end Go.Pev
