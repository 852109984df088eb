/- The machine's operations against the pure evaluator's: rows told as trees; new variables and rows; literals. -/
import Derived.Test.YthkehbdljckbdaaOps3
import Derived.Great.BuildSlice
import Derived.Laws.MakeOwn
import Derived.IntWalk
set_option linter.unusedVariables false
set_option linter.unusedSimpArgs false
namespace Go.Pev
open Go Go.RowKit

theorem oneCell_repV {R : Rl} {w : World} {u : Value} {v : V} (h : RepV R w u v) {cs : List V} (hc : cells v = some cs) (hag : ∀ c, v ≠ .ag c) : u.oneCell' = true ∧ cs = [v] := by
  cases h with
  | t h => simp [cells] at hc; exact ⟨oneCell_repT h, hc.symm⟩
  | ow => simp [cells] at hc; exact ⟨rfl, hc.symm⟩
  | owv => simp [cells] at hc; exact ⟨rfl, hc.symm⟩
  | nl => simp [cells] at hc; exact ⟨rfl, hc.symm⟩
  | nn => simp [cells] at hc; exact ⟨rfl, hc.symm⟩
  | nz => simp [cells] at hc; exact ⟨rfl, hc.symm⟩
  | pt => simp [cells] at hc; exact ⟨rfl, hc.symm⟩
  | pr => simp [cells] at hc; exact ⟨rfl, hc.symm⟩
  | ag arr cs' => exact absurd rfl (hag cs')
  | tu => simp [cells] at hc
  | fn => simp [cells] at hc; exact ⟨rfl, hc.symm⟩
  | ud => simp [cells] at hc
  | un => simp [cells] at hc

/-- A value's cells. -/
theorem cells_rep {R : Rl} {w : World} {u : Value} {v : V} (h : RepV R w u v) {cs : List V} (hc : cells v = some cs) :
    u.cells.size = cs.length ∧ (∀ j, j < u.cells.size → (u.cells.getD j undef).oneCell' = true) ∧ ∀ j x, cs[j]? = some x → RepV R w (u.cells.getD j undef) x := by
  by_cases hag : ∃ c, v = .ag c
  · obtain ⟨c, rfl⟩ := hag
    simp [cells] at hc
    subst hc
    cases h with
    | ag arr _ hn h1 h => exact ⟨hn, h1, h⟩
  · obtain ⟨h1, rfl⟩ := oneCell_repV h hc (fun c e => hag ⟨c, e⟩)
    have hu : u.cells = #[u] := by cases u <;> first | rfl | simp [Value.oneCell'] at h1
    rw [hu]
    refine ⟨rfl, fun j hj => ?_, fun j x hx => ?_⟩
    · obtain rfl : j = 0 := by simp at hj; exact hj
      exact h1
    · cases j with
      | zero => simp at hx; subst hx; exact h
      | succ j => simp at hx

def vkeys : V → List Key
  | .ow k _ _ _ => [k]
  | _ => []

theorem treeOf_rep {R : Rl} {w : World} {hp : HP} {ck : Nat} {dn : Nat → Prop} (hi : HInv R w hp ck dn) {S' : Nat → Prop} (hS : ∀ g, R.S g → S' g) {u : Value} {v : V} (h : RepV R w u v) {t : T} (ht : treeOf hp v = some t) (hk : ∀ g, rowsAt R hp (vkeys v) g → S' g) : RepT S' w u t := by
  unfold treeOf at ht
  split at ht
  · cases ht
    exact (repV_tl h).mono hS (fun _ _ => rfl)
  · cases ht
    have : u = .slice none 0 0 := by cases h; rfl
    subst this
    exact .l none 0 0 [] 0 0 0 (fun _ _ => undef) rfl (Nat.le_refl _) (by omega) (by omega) (by simp) (by intro i j t h; simp [at2] at h) (by intro i j t h; simp [at2] at h)
  · cases ht
    cases h with
    | nn A c => exact .l (some A) 0 c [] 0 0 0 (fun _ _ => undef) rfl (Nat.zero_le _) (by omega) (by omega) (by simp) (by intro i j t h; simp [at2] at h) (by intro i j t h; simp [at2] at h)
  · rename_i k sz off len
    split at ht
    · rename_i ty sz' els fz hg
      by_cases hc : sz' = sz ∧ off + len ≤ els.length
      · rw [if_pos hc] at ht
        obtain ⟨rfl, hlen⟩ := hc
        cases ht
        have hob := hi.ob _ _ hg
        rcases repV_ow h with ⟨g, tot, A, cap, rfl, hμ, hl, hcap, hA⟩ | ⟨rfl, hμ, rfl, rfl⟩
        · rcases hob with ⟨h1, _⟩ | ⟨g', n', arr, h1, h2, h3, h4, h5, h6, h7, h8, h9⟩
          · rw [hμ] at h1; cases h1
          · rw [hμ] at h1
            cases h1
            have hget : ∀ i j t, at2 ((els.drop off).take len) i j = some t → at2 els (off + i) j = some t := by
              intro i j t ht
              obtain ⟨c, hc1, hc2⟩ := at2_elim ht
              rw [List.getElem?_take] at hc1
              by_cases hlt : i < len
              · rw [if_pos hlt, List.getElem?_drop] at hc1
                exact at2_some hc1 hc2
              · rw [if_neg hlt] at hc1; cases hc1
            refine .l _ _ _ _ sz' g (off * sz') (fun i j => arr.getD ((off + i) * sz' + j) undef) (by simp; omega) hl (fun hp' => hA (by omega)) (fun _ => hk g ⟨k, by simp [vkeys], ty, sz', els, fz, _, hg, hμ⟩) (fun c hc => ?_) (fun i j t ht => ?_) (fun i j t ht => ?_)
            · exact h6 c (List.mem_of_mem_drop (List.mem_of_mem_take hc))
            · obtain ⟨c, hc1, hc2⟩ := at2_elim (hget i j t ht)
              have hi1 := (List.getElem?_eq_some_iff.1 hc1).1
              have hj1 := (List.getElem?_eq_some_iff.1 hc2).1
              have hcs := h6 c (List.mem_of_getElem? hc1)
              have e1 : off * sz' + (i * sz' + j) = (off + i) * sz' + j := by rw [Nat.add_mul]; omega
              rw [e1, h2.cell]
              refine getD_of_getElem? ?_
              rw [h3]
              exact mul_lt (by omega) (by omega)
            · exact (h8 _ _ _ (hget i j t ht)).mono hS (fun _ _ => rfl)
        · exact .l none 0 0 _ 0 0 0 (fun _ _ => undef) (by simp) (Nat.le_refl _) (by omega) (by omega) (by simp) (by intro i j t h; simp [at2] at h) (by intro i j t h; simp [at2] at h)
      · rw [if_neg hc] at ht
        cases ht
    · cases ht
  · cases ht

theorem treesOf_rep {R : Rl} {w : World} {hp : HP} {ck : Nat} {dn : Nat → Prop} (hi : HInv R w hp ck dn) {S' : Nat → Prop} (hS : ∀ g, R.S g → S' g) {f : Nat → Value} : ∀ (cs : List V) (q : Nat), (∀ j v, cs[j]? = some v → RepV R w (f (q + j)) v) → ∀ {ts : List T}, treesOf hp cs = some ts → (∀ g, rowsAt R hp (cs.flatMap vkeys) g → S' g) →
    ts.length = cs.length ∧ ∀ j t, ts[j]? = some t → RepT S' w (f (q + j)) t
  | [], q, _, ts, ht, _ => by simp [treesOf] at ht; subst ht; simp
  | c :: cs, q, h, ts, ht, hk => by
    simp only [treesOf] at ht
    cases h1 : treeOf hp c with
    | none => simp [h1] at ht
    | some t =>
      cases h2 : treesOf hp cs with
      | none => simp [h1, h2] at ht
      | some ts' =>
        simp [h1, h2] at ht
        subst ht
        have hsub : ∀ g ks ks', (∀ k ∈ ks, k ∈ ks') → rowsAt R hp ks g → rowsAt R hp ks' g := fun g ks ks' hs ⟨k, hk, r⟩ => ⟨k, hs k hk, r⟩
        obtain ⟨l1, l2⟩ := treesOf_rep hi hS cs (q + 1) (fun j v hv => by have := h (j + 1) v (by simpa using hv); rwa [show q + (j + 1) = q + 1 + j by omega] at this) h2 (fun g hg => hk g (hsub g _ _ (fun k hk => by simp only [List.flatMap_cons, List.mem_append]; exact .inr hk) hg))
        refine ⟨by simp [l1], fun j t' hj => ?_⟩
        cases j with
        | zero =>
          simp at hj
          subst hj
          exact treeOf_rep hi hS (h 0 c rfl) h1 (fun g hg => hk g (hsub g _ _ (fun k hk => by simp only [List.flatMap_cons, List.mem_append]; exact .inl hk) hg))
        | succ j =>
          have := l2 j t' (by simpa using hj)
          rwa [show q + (j + 1) = q + 1 + j by omega]

theorem rowsAt_sub {R : Rl} {hp : HP} {ks ks' : List Key} (h : ∀ k ∈ ks, k ∈ ks') (g : Nat) (hg : rowsAt R hp ks g) : rowsAt R hp ks' g := by
  obtain ⟨k, hk, r⟩ := hg
  exact ⟨k, h k hk, r⟩

section
variable {P : Program} {o : Oper} {a : Act} {R : Rl} {w : World} {hp : HP} {dn : Nat → Prop} {me ck d : Nat} {e : Env}

theorem nilv_out (hi : HInv R w hp ck dn) (hd : ¬ dn me) (ho : o.op = .assign (.const (.slice none 0 0))) (ty sz : Nat) :
    Out P o a R w hp dn me (.ow ⟨d, ck, me⟩ sz 0 0) ((⟨d, ck, me⟩, .row ty sz [] false) :: hp) ck := by
  obtain ⟨h1, h2⟩ := alloc_step (w' := w) hi hd ⟨d, ck, me⟩ ⟨rfl, rfl⟩ none (.row ty sz [] false) rfl rfl rfl (Nat.le_refl _) (fun _ _ => rfl) (by intro g n h; cases h) (fun _ => .inl ⟨updμ_same _ _ _, rfl⟩)
  refine Out.of (.slice none 0 0) w _ (.inl ?_) (.owv _ _ (updμ_same _ _ _)) h1 h2
  simp [execOp, ho, Act.eval]

theorem new_var (hi : HInv R w hp ck dn) (hd : ¬ dn me) (ty : Nat) {u : Value} {cs : List V} (h1 : u.cells.size = cs.length) (h2 : ∀ j, j < u.cells.size → (u.cells.getD j undef).oneCell' = true) (h3 : ∀ j x, cs[j]? = some x → RepV R w (u.cells.getD j undef) x) (n : Nat)
    (hrun : (execOp a.eval o).run P w = .ok (.value (.pointer (some ⟨w.heap.size, 0, none⟩))) (w.alloc (.cells u.cells ty))) :
    Out P o a R w hp dn me (.pt ⟨d, ck, me⟩ n 0 0) ((⟨d, ck, me⟩, .box ty cs) :: hp) ck := by
  obtain ⟨g1, g2⟩ := alloc_step (w' := w.alloc (.cells u.cells ty)) hi hd ⟨d, ck, me⟩ ⟨rfl, rfl⟩ (some (w.heap.size, 0)) (.box ty cs) rfl rfl rfl (by simp) (fun g hg => heap_alloc_old w _ g hg) (by intro g n h; cases h; exact Nat.le_refl _)
    (fun ha => ⟨w.heap.size, 0, u.cells, updμ_same _ _ _, heap_alloc_new w _, h1, h2, fun j x hx => (h3 j x hx).mono ha⟩)
  refine Out.of _ _ _ (.inl hrun) ?_ g1 g2
  have := RepV.pt (R := { R with μ := updμ R.μ ⟨d, ck, me⟩ (some (w.heap.size, 0)) }) (w := w.alloc (.cells u.cells ty)) ⟨d, ck, me⟩ n 0 0 w.heap.size 0 (updμ_same _ _ _)
  simpa using this

theorem box_out (hi : HInv R w hp ck dn) (hd : ¬ dn me) (he : EnvRep R w a e) {ty n : Nat} {x : Operand} {x' : Opd} (ho : o.op = .box ty x) (hx : compOpd x = some x') {cs : List V} (hc : cells (x'.ev e) = some cs) :
    Out P o a R w hp dn me (.pt ⟨d, ck, me⟩ n 0 0) ((⟨d, ck, me⟩, .box ty cs) :: hp) ck := by
  obtain ⟨h1, h2, h3⟩ := cells_rep (opd_rep he hx) hc
  exact new_var hi hd ty h1 h2 h3 n (by simp [execOp, ho, Instr.box, newVar, newRow])

theorem alloc_out (hi : HInv R w hp ck dn) (hd : ¬ dn me) {ty n : Nat} (ho : o.op = .alloc ty) {z : Value} (hz : zeroOf P ty = some z) {zs : List V} (hzs : constCs z.cells.toList = some zs) :
    Out P o a R w hp dn me (.pt ⟨d, ck, me⟩ n 0 0) ((⟨d, ck, me⟩, .box ty zs) :: hp) ck := by
  obtain ⟨hl, hr⟩ := constCs_rep (R := R) (w := w) _ _ hzs
  have hl' : z.cells.size = zs.length := by simpa using hl
  refine new_var hi hd ty hl' (fun j hj => ?_) (fun j x hx => ?_) n ?_
  · have := (hr j _ (List.getElem?_eq_getElem (by omega))).2
    rwa [arr_getD] at this
  · have := (hr j x hx).1
    rwa [arr_getD] at this
  · simp [execOp, ho, Instr.alloc, run_zeroOf hz, newVar, newRow]

/-! ### literals of slices -/
theorem opds_length {xs : List Operand} {ys : List Opd} (h : compOpds xs = some ys) : xs.length = ys.length := by
  induction xs generalizing ys with
  | nil => simp [compOpds] at h; subst h; rfl
  | cons x r ih =>
    simp only [compOpds] at h
    cases h1 : compOpd x with
    | none => simp [h1] at h
    | some y =>
      cases h2 : compOpds r with
      | none => simp [h1, h2] at h
      | some ys' => simp [h1, h2] at h; subst h; simp [ih h2]

theorem rows_rep (hi : HInv R w hp ck dn) (he : EnvRep R w a e) {S' : Nat → Prop} (hS : ∀ g, R.S g → S' g) (sz : Nat) : ∀ (xs : List Operand) (ys : List Opd), compOpds xs = some ys → ∀ {rows : List (List T)}, rowsOf hp e sz ys = some rows → (∀ g, rowsAt R hp (keysOfs hp e ys) g → S' g) →
    rows.length = xs.length ∧ (∀ v ∈ xs.map a.eval, v.cells.size = sz) ∧ (∀ c ∈ rows, c.length = sz) ∧ (∀ v ∈ xs.map a.eval, ∀ j, j < v.cells.size → (v.cells.getD j undef).oneCell' = true) ∧
    ∀ i j t, at2 rows i j = some t → RepT S' w (((xs.map a.eval).getD i undef).cells.getD j undef) t
  | [], ys, h, rows, hr, _ => by
    simp [compOpds] at h
    subst h
    simp [rowsOf] at hr
    subst hr
    exact ⟨rfl, by simp, by simp, by simp, by intro i j t ht; simp [at2] at ht⟩
  | x :: xs, ys, h, rows, hr, hk => by
    simp only [compOpds] at h
    cases h1 : compOpd x with
    | none => simp [h1] at h
    | some y =>
      cases h2 : compOpds xs with
      | none => simp [h1, h2] at h
      | some ys' =>
        simp [h1, h2] at h
        subst h
        simp only [rowsOf] at hr
        cases h3 : treesC hp (y.ev e) with
        | none => simp [h3] at hr
        | some c =>
          cases h4 : rowsOf hp e sz ys' with
          | none => simp [h3, h4] at hr
          | some rows' =>
            simp only [h3, h4] at hr
            by_cases hl : c.length = sz
            · rw [if_pos hl] at hr
              cases hr
              have hrep := opd_rep he h1
              unfold treesC at h3
              cases h5 : cells (y.ev e) with
              | none => simp [h5] at h3
              | some cs =>
                simp only [h5] at h3
                obtain ⟨c1, c2, c3⟩ := cells_rep hrep h5
                obtain ⟨t1, t2⟩ := treesOf_rep hi hS (f := fun j => (a.eval x).cells.getD j undef) cs 0 (fun j v hv => by simpa using c3 j v hv) h3 (fun g hg => by
                  refine hk g (rowsAt_sub (fun k hk => ?_) g hg)
                  simp only [keysOfs, List.mem_append]
                  refine .inl ?_
                  obtain ⟨v, hv1, hv2⟩ := List.mem_flatMap.1 hk
                  cases hy : y.ev e with
                  | ow k' s' o' l' =>
                    rw [hy] at h5
                    simp [cells] at h5
                    subst h5
                    simp at hv1
                    subst hv1
                    simpa [vkeys] using hv2
                  | ag cs' =>
                    rw [hy] at h5
                    simp [cells] at h5
                    subst h5
                    refine List.mem_flatMap.2 ⟨v, hv1, ?_⟩
                    cases v <;> simp [vkeys] at hv2 <;> simpa [keysOf1] using hv2
                  | t _ => rw [hy] at h5; simp [cells] at h5; subst h5; simp at hv1; subst hv1; simp [vkeys] at hv2
                  | nl => rw [hy] at h5; simp [cells] at h5; subst h5; simp at hv1; subst hv1; simp [vkeys] at hv2
                  | nn => rw [hy] at h5; simp [cells] at h5; subst h5; simp at hv1; subst hv1; simp [vkeys] at hv2
                  | nz => rw [hy] at h5; simp [cells] at h5; subst h5; simp at hv1; subst hv1; simp [vkeys] at hv2
                  | pt _ _ _ _ => rw [hy] at h5; simp [cells] at h5; subst h5; simp at hv1; subst hv1; simp [vkeys] at hv2
                  | pr _ => rw [hy] at h5; simp [cells] at h5; subst h5; simp at hv1; subst hv1; simp [vkeys] at hv2
                  | fn _ _ => rw [hy] at h5; simp [cells] at h5; subst h5; simp at hv1; subst hv1; simp [vkeys] at hv2
                  | tu _ => rw [hy] at h5; simp [cells] at h5
                  | ud => rw [hy] at h5; simp [cells] at h5
                  | un => rw [hy] at h5; simp [cells] at h5)
                obtain ⟨r1, r2, r3, r4, r5⟩ := rows_rep hi he hS sz xs ys' h2 h4 (fun g hg => hk g (rowsAt_sub (fun k hk => by simp only [keysOfs, List.mem_append]; exact .inr hk) g hg))
                refine ⟨by simp [r1], fun v hv => ?_, fun q hq => ?_, fun v hv => ?_, fun i j t ht => ?_⟩
                · rcases List.mem_cons.1 hv with rfl | hv
                  · omega
                  · exact r2 v hv
                · rcases List.mem_cons.1 hq with rfl | hq
                  · exact hl
                  · exact r3 q hq
                · rcases List.mem_cons.1 hv with rfl | hv
                  · exact c2
                  · exact r4 v hv
                · obtain ⟨q, hq1, hq2⟩ := at2_elim ht
                  cases i with
                  | zero =>
                    simp at hq1
                    subst hq1
                    have := t2 j t hq2
                    simpa using this
                  | succ i =>
                    have := r5 i j t (at2_some (by simpa using hq1) hq2)
                    simpa using this
            · rw [if_neg hl] at hr
              cases hr

theorem zip_range (xs : List Operand) (ps : List (Nat × Operand)) (n : Nat) (h1 : ps.map (·.1) = List.range n) (h2 : ps.map (·.2) = xs) (f : Operand → Value) : ps.map (fun p => (p.1, f p.2)) = ((xs.map f).zipIdx 0).map fun x => (x.2, x.1) := by
  subst h2
  apply List.ext_getElem?
  intro i
  have hl : ps.length = n := by have := congrArg List.length h1; simpa using this
  by_cases hi : i < ps.length
  · have h3 := congrArg (·[i]?) h1
    simp [hi, show i < n by omega] at h3
    simp [hi, h3]
  · simp [hi]

/-- What a literal makes. -/
theorem lit_run (hi : HInv R w hp ck dn) (he : EnvRep R w a e) {t el : TypeId} {len n : Nat} {ps : Array (Nat × Operand)} (ho : o.op = .buildSlice t len ps) (ht : P.underlying t = some (.slice el)) (hn : szOf P el = some n) {z : Value} (hz : zeroOf P el = some z) {xs : List Opd} (hx : compOpds (ps.toList.map (·.2)) = some xs)
    (hps : ps.toList.map (·.1) = List.range len) (hsm : len * n ≤ 16777216) (hn0 : 0 < n) (hzs : z.cells.size = n) {S' : Nat → Prop} (hS : ∀ g, R.S g → S' g) {rows : List (List T)} (hr : rowsOf hp e n xs = some rows) (hk : ∀ g, rowsAt R hp (keysOfs hp e xs) g → S' g) :
    ∃ arr : Array Value, (execOp a.eval o).run P w = .ok (.value (.slice (some ⟨w.heap.size, 0, none⟩) rows.length rows.length)) (w.alloc (.cells arr el)) ∧ arr.size = rows.length * n ∧ (∀ c ∈ rows, c.length = n) ∧ (∀ j, j < arr.size → (arr.getD j undef).oneCell' = true) ∧
      (∀ i j t, at2 rows i j = some t → RepT S' w (arr.getD (i * n + j) undef) t) ∧ rows.length ≤ 16777216 := by
  obtain ⟨r1, r2, r3, r4, r5⟩ := rows_rep hi he hS n _ _ hx hr hk
  have hlen : rows.length = len := by rw [r1]; have := congrArg List.length hps; simpa using this
  have hinfo : ∃ ie, P.info? el = some ie ∧ ie.size = n := by
    unfold szOf at hn
    cases hie : P.info? el with
    | none => simp [hie] at hn
    | some ie => simp [hie] at hn; exact ⟨ie, rfl, hn⟩
  obtain ⟨ie, hie, hsz⟩ := hinfo
  have hz' : ie.zero = some z := by simpa [zeroOf, hie] using hz
  generalize hus : (ps.toList.map (·.2)).map a.eval = us at r2 r4 r5
  have hul : us.length = len := by rw [← hus, List.length_map, ← r1, hlen]
  have hflat : (us.flatMap fun v => v.cells.toList).length = len * n := by
    rw [← hul]
    clear hus r5 hul r4
    induction us with
    | nil => simp
    | cons u us ih =>
      rw [List.flatMap_cons, List.length_append, ih (fun v hv => r2 v (List.mem_cons_of_mem _ hv)), List.length_cons, Nat.add_mul, Nat.one_mul]
      have := r2 u List.mem_cons_self
      simp [this]
      omega
  have hgetf : ∀ i j, i < len → j < n → (us.flatMap fun v => v.cells.toList).getD (i * n + j) undef = ((us.getD i undef).cells.getD j undef) := by
    intro i j hi' hj
    rw [List.getD_eq_getElem?_getD, Great.flat_get hn0 us r2]
    have e1 : (i * n + j) / n = i := by rw [Nat.mul_comm, Nat.mul_add_div hn0, Nat.div_eq_of_lt hj]; omega
    have e2 : (i * n + j) % n = j := by rw [Nat.mul_comm, Nat.mul_add_mod]; exact Nat.mod_eq_of_lt hj
    rw [e1, e2, List.getElem?_eq_getElem (show i < us.length by omega)]
    simp [List.getD_eq_getElem?_getD, Array.getD_eq_getD_getElem?, List.getElem?_eq_getElem (show i < us.length by omega)]
  refine ⟨(us.flatMap fun v => v.cells.toList).toArray, ?_, by simpa [hlen] using hflat, r3, fun j hj => ?_, fun i j t ht => ?_, ?_⟩
  · have hsz0 : (us.flatMap fun v => v.cells.toList).toArray = #[] ∨ 0 < len := by
      rcases Nat.eq_zero_or_pos len with h | h
      · left
        have : us = [] := List.eq_nil_of_length_eq_zero (by omega)
        subst this
        rfl
      · exact .inr h
    rcases Nat.eq_zero_or_pos len with h0 | h0
    · subst h0
      have hu0 : us = [] := List.eq_nil_of_length_eq_zero hul
      have hps0 : ps = #[] := by
        have : ps.toList = [] := by simpa using hps
        cases ps; simp at this; simp [this]
      subst hu0
      rw [hlen]
      simp [execOp, ho, hps0, Instr.buildSlice, run_underlying ht, run_szOf hn, Instr.fill, newRow]
      congr 2
      exact Array.eq_empty_of_size_eq_zero (by simp)
    · have hpos : ¬ len * ie.size = 0 := by rw [hsz]; exact Nat.ne_of_gt (Nat.mul_pos h0 hn0)
      have hfill : Instr.fill (fun i => some (i * ie.size, ie.size)) ((Array.range (len * ie.size)).map (z.cells[· % z.cells.size]!)) (ps.map fun p => (p.1, a.eval p.2)).toList = some (us.flatMap fun v => v.cells.toList).toArray := by
        rw [hsz, Array.toList_map, zip_range _ ps.toList len hps rfl, hus]
        exact Great.fill_whole hn0 us _ r2 (by simp [hul])
      have hrun := run_buildSlice (P := P) w t el len (ps.map fun p => (p.1, a.eval p.2)) _ ie z ht hie hz' (by rw [hsz]; omega) hpos hfill
      rw [hlen]
      simp only [execOp, ho]
      rw [Sem.run_bind, hrun]
      rfl
  · have hj' : j < len * n := by simpa [hflat] using hj
    have hd : j / n < len := (Nat.div_lt_iff_lt_mul hn0).2 hj'
    have hm : j % n < n := Nat.mod_lt _ hn0
    have e1 : j = j / n * n + j % n := by rw [Nat.mul_comm]; exact (Nat.div_add_mod j n).symm
    have : (us.flatMap fun v => v.cells.toList).toArray.getD j undef = (us.flatMap fun v => v.cells.toList).getD j undef := by simp [List.getD_eq_getElem?_getD, Array.getD_eq_getD_getElem?]
    rw [this, e1, hgetf _ _ hd hm]
    have hmem : us.getD (j / n) undef ∈ us := by rw [List.getD_eq_getElem?_getD, List.getElem?_eq_getElem (by omega)]; exact List.getElem_mem _
    exact r4 _ hmem _ (by rw [r2 _ hmem]; exact hm)
  · obtain ⟨c, hc1, hc2⟩ := at2_elim ht
    have hi1 := (List.getElem?_eq_some_iff.1 hc1).1
    have hj1 := (List.getElem?_eq_some_iff.1 hc2).1
    have hcs := r3 c (List.mem_of_getElem? hc1)
    have : (us.flatMap fun v => v.cells.toList).toArray.getD (i * n + j) undef = (us.flatMap fun v => v.cells.toList).getD (i * n + j) undef := by simp [List.getD_eq_getElem?_getD, Array.getD_eq_getD_getElem?]
    rw [this, hgetf i j (by omega) (by omega)]
    exact r5 i j t ht
  · rw [hlen]
    have : len * 1 ≤ len * n := Nat.mul_le_mul_left _ hn0
    omega
end
end Go.Pev
