/- Calls: what is handed in, and what comes back. -/
import Derived.Test.YthkehbdljckbdaaOps8
set_option linter.unusedVariables false
set_option linter.unusedSimpArgs false
namespace Go.Pev
open Go Go.RowKit

def CPost (R : Rl) (w : World) (h : HP) (r : V) (h' : HP) (ck' : Nat) (dn : Nat → Prop) : Ending → World → Prop := fun e w' => ∃ v R', e = .returned v ∧ RepV R' w' v r ∧ Grow R w h R' w' h' ∧ HInv R' w' h' ck' dn

def ArgsRep (R : Rl) (w : World) (us : Array Value) (args : List V) : Prop := us.size = args.length ∧ ∀ j v, args[j]? = some v → RepV R w (us.getD j undef) v

def RunOk (P : Program) (run : Run) : Prop := ∀ f args h ck r h' ck', run f args h ck = some (r, h', ck') → ∀ R w us, HInv R w h ck (fun _ => False) → ArgsRep R w us args → goodFn P f = true ∧ Calls P f us w (CPost R w h r h' ck' (fun _ => False))

theorem HInv.ck {R w hp ck dn} (hi : HInv R w hp ck dn) (ck' : Nat) (h : ck < ck') (dn' : Nat → Prop) : HInv R w hp ck' dn' :=
  ⟨hi.ob, hi.sep, hi.own, hi.sS, hi.sB, fun k p hk => .inl (by rcases hi.fr k p hk with h1 | h1 <;> omega), hi.nd⟩

/-- A row that a callee made becomes the caller's. -/
theorem take_step {R : Rl} {w w' : World} {hp : HP} {ck me : Nat} {dn : Nat → Prop} (hi : HInv R w hp ck dn) (hd : ¬ dn me) (k : Key) (hk : k.c = ck ∧ k.o = me) (p : Option (Nat × Nat)) (ob : Ob) (Q : Nat → Prop)
    (hos : w'.os = w.os) (htp : w'.tape = w.tape) (hout : w'.output = w.output) (hsz : w.heap.size ≤ w'.heap.size) (hold : ∀ g, g < w.heap.size → w'.heap[g]? = w.heap[g]?)
    (hQ : ∀ g, Q g → w.heap.size ≤ g ∧ g < w'.heap.size) (hQp : ∀ g n, p = some (g, n) → ¬ Q g) (hpB : ∀ g n, p = some (g, n) → w.heap.size ≤ g)
    (hob : Agree R w { (R.withS Q) with μ := updμ R.μ k p } w' → ObRel { (R.withS Q) with μ := updμ R.μ k p } w' k ob) :
    Grow R w hp { (R.withS Q) with μ := updμ R.μ k p } w' ((k, ob) :: hp) ∧ HInv { (R.withS Q) with μ := updμ R.μ k p } w' ((k, ob) :: hp) ck (plus dn me) := by
  obtain ⟨hf, hn⟩ := hi.fresh hk.1 (by rw [hk.2]; exact hd)
  have hμ : ∀ q p', R.μ q = some p' → updμ R.μ k p q = some p' := by
    intro q p' hq
    rw [updμ_other _ _ _ _ (by rintro rfl; rw [hf] at hq; cases hq)]
    exact hq
  have ha : Agree R w { (R.withS Q) with μ := updμ R.μ k p } w' := ⟨fun _ h => .inl h, fun _ h => h, hμ, fun g hg => hold g (hi.sS g hg), fun g hg => hold g (hi.sB g hg)⟩
  have hgc : ∀ q, HP.get ((k, ob) :: hp) q = if k = q then some ob else hp.get q := fun q => rfl
  have hown : ∀ g, Own { (R.withS Q) with μ := updμ R.μ k p } ((k, ob) :: hp) g → (∃ n, p = some (g, n)) ∨ Own R hp g := by
    rintro g ⟨q, o, n, h1, h2, h3⟩
    rw [hgc] at h1
    by_cases e : k = q
    · subst e
      simp only [updμ_same] at h3
      exact .inl ⟨n, Option.some.inj h3⟩
    · rw [if_neg e] at h1
      simp only [updμ_other _ _ _ _ (Ne.symm e)] at h3
      exact .inr ⟨q, o, n, h1, h2, h3⟩
  refine ⟨⟨hos, htp, hout, hsz, fun g hg _ => hold g hg, fun _ h => .inl h, rfl, hμ, fun g h => h.imp id fun h => .inl (hQ g h).1, fun g h => (hown g h).imp (fun ⟨n, h⟩ => hpB g n h) id⟩, ?_⟩
  constructor
  · intro q o hq
    rw [hgc] at hq
    by_cases e : k = q
    · subst e
      rw [if_pos rfl] at hq
      cases hq
      exact hob ha
    · rw [if_neg e] at hq
      exact (hi.ob q o hq).mono ha (fun g n hg => hold g ((hi.ob q o hq).lt hg))
  · intro k1 k2 o1 o2 g n1 n2 h1 h2 hl hm1 hm2
    rw [hgc] at h1 h2
    by_cases e1 : k = k1
    · by_cases e2 : k = k2
      · exact e1.symm.trans e2
      · subst e1
        rw [if_neg e2] at h2
        simp only [updμ_same] at hm1
        simp only [updμ_other _ _ _ _ (Ne.symm e2)] at hm2
        have := hpB g n1 (Option.some.inj hm1)
        have := (hi.ob k2 o2 h2).lt hm2
        omega
    · rw [if_neg e1] at h1
      simp only [updμ_other _ _ _ _ (Ne.symm e1)] at hm1
      by_cases e2 : k = k2
      · subst e2
        simp only [updμ_same] at hm2
        have := hpB g n2 (Option.some.inj hm2)
        have := (hi.ob k1 o1 h1).lt hm1
        omega
      · rw [if_neg e2] at h2
        simp only [updμ_other _ _ _ _ (Ne.symm e2)] at hm2
        exact hi.sep k1 k2 o1 o2 g n1 n2 h1 h2 hl hm1 hm2
  · intro g hg
    rcases hown g hg with ⟨n, h⟩ | h
    · have := hpB g n h
      refine ⟨?_, fun hs => by have := hi.sB g hs; omega⟩
      rintro (hs | hs)
      · have := hi.sS g hs; omega
      · exact hQp g n h hs
    · refine ⟨?_, (hi.own g h).2⟩
      rintro (hs | hs)
      · exact (hi.own g h).1 hs
      · obtain ⟨q, o, n, h1, h2, h3⟩ := h
        have := (hi.ob q o h1).lt h3
        have := (hQ g hs).1
        omega
  · rintro g (hg | hg)
    · exact Nat.lt_of_lt_of_le (hi.sS g hg) hsz
    · exact (hQ g hg).2
  · exact fun g hg => Nat.lt_of_lt_of_le (hi.sB g hg) hsz
  · intro q p' hq
    by_cases e : q = k
    · subst e
      exact .inr ⟨hk.1, .inr hk.2⟩
    · simp only [updμ_other _ _ _ _ e] at hq
      exact (hi.fr q p' hq).imp id fun h => ⟨h.1, .inl h.2⟩
  · simp only [List.map_cons, List.nodup_cons]
    exact ⟨hn, hi.nd⟩

/-! ### arguments that are handed to a pure call -/
def boxAt (R : Rl) (hp : HP) (g : Nat) : Prop := ∃ k ty cs n, hp.get k = some (.box ty cs) ∧ R.μ k = some (some (g, n))
def pureR (R : Rl) (hp : HP) (ks : List Key) : Rl := ⟨fun g => R.S g ∨ rowsAt R hp ks g, fun g => R.B g ∨ boxAt R hp g, fun _ => none⟩

section
variable {R : Rl} {w : World} {hp : HP} {ck : Nat} {dn : Nat → Prop}

theorem pureR_inv (hi : HInv R w hp ck dn) (ks : List Key) : HInv (pureR R hp ks) w [] 0 (fun _ => False) := by
  constructor
  · intro k o h; cases h
  · intro k1 k2 o1 o2 g n1 n2 h; cases h
  · rintro g ⟨k, o, n, h, _⟩; cases h
  · rintro g (h | ⟨k, hk, ty, sz, els, fz, n, h1, h2⟩)
    · exact hi.sS g h
    · exact (hi.ob _ _ h1).lt h2
  · rintro g (h | ⟨k, ty, cs, n, h1, h2⟩)
    · exact hi.sB g h
    · exact (hi.ob _ _ h1).lt h2
  · intro k p h; cases h
  · exact List.nodup_nil

theorem repT_nil (S : Nat → Prop) (w : World) : RepT S w (.slice none 0 0) (.l []) :=
  .l none 0 0 [] 0 0 0 (fun _ _ => undef) rfl (Nat.le_refl _) (by omega) (by omega) (by simp) (by intro i j t h; simp [at2] at h) (by intro i j t h; simp [at2] at h)

theorem flatMap_sub {α : Type} {f g : α → List Key} {l : List α} (h : ∀ x ∈ l, ∀ k ∈ f x, k ∈ g x) {k : Key} (hk : k ∈ l.flatMap f) : k ∈ l.flatMap g := by
  obtain ⟨x, hx, hk⟩ := List.mem_flatMap.1 hk
  exact List.mem_flatMap.2 ⟨x, hx, h x hx k hk⟩

theorem vkeys_sub1 (hp : HP) (v : V) {k : Key} (hk : k ∈ vkeys v) : k ∈ keysOf1 hp v := by cases v <;> simp [vkeys] at hk; simpa [keysOf1] using hk

theorem capOf_rep (hi : HInv R w hp ck dn) (ks : List Key) {u : Value} {v x : V} (h : RepV R w u v) (hc : capOf hp v = some x) (hk : ∀ k ∈ keysOf1 hp v, k ∈ ks) : RepV (pureR R hp ks) w u x := by
  unfold capOf at hc
  split at hc
  · cases hc; exact .t ((repV_tl h).mono (fun _ h => .inl h) (fun _ _ => rfl))
  · cases hc
    have : u = .slice none 0 0 := by cases h; rfl
    subst this
    exact .t (repT_nil _ _)
  · rename_i k sz off len
    cases ht : treeOf hp (.ow k sz off len) with
    | none => simp [ht] at hc
    | some t =>
      simp [ht] at hc
      subst hc
      exact .t (treeOf_rep hi (fun _ h => .inl h) h ht (fun g hg => .inr (rowsAt_sub (fun k' hk' => hk k' (vkeys_sub1 hp _ hk')) g hg)))
  · cases hc
    cases h with
    | pr g o cs f hB hcell hrep => exact .pr g o _ f (fun h => (hB h).imp .inl .inl) hcell (fun j t ht => (hrep j t ht).mono (fun _ h => .inl h) (fun _ _ => rfl))
  · rename_i k sz
    split at hc
    · rename_i ty cs hg
      split at hc
      · rename_i ts hts
        cases hc
        cases h with
        | pt _ _ _ _ g n hμ =>
          obtain ⟨g', n', arr, b1, b2, b3, b4, b5⟩ := hi.ob _ _ hg
          rw [hμ] at b1
          cases b1
          obtain ⟨t1, t2⟩ := treesOf_rep (f := fun j => arr.getD j undef) hi (S' := (pureR R hp ks).S) (fun _ h => .inl h) cs 0 (fun j v hv => by rw [Nat.zero_add]; exact b5 j v hv) hts (fun g' hg' => .inr (rowsAt_sub (fun k' hk' => hk k' (by
            simp only [keysOf1, hg]
            refine flatMap_sub (fun x _ k'' hk'' => ?_) hk'
            cases x <;> simp [vkeys] at hk''
            simpa using hk'')) g' hg'))
          rw [Nat.zero_mul, Nat.zero_add]
          refine .pr g 0 ts (fun j => arr.getD j undef) (fun _ => .inr (.inr ⟨k, ty, cs, n, hg, hμ⟩)) (fun j t ht => ?_) (fun j t ht => ?_)
          · rw [Nat.zero_add, cell_of_row w g j arr ty (0, 0) b2]
            exact getD_of_getElem? (by have := (List.getElem?_eq_some_iff.1 ht).1; omega)
          · have := t2 j t ht
            rwa [Nat.zero_add] at this
      · cases hc
    · cases hc
  · cases hc

theorem capsOf_rep (hi : HInv R w hp ck dn) (ks : List Key) {f : Nat → Value} : ∀ (vs xs : List V) (q : Nat), (∀ j v, vs[j]? = some v → RepV R w (f (q + j)) v) → capsOf hp vs = some xs → (∀ k ∈ vs.flatMap (keysOf1 hp), k ∈ ks) → xs.length = vs.length ∧ ∀ j x, xs[j]? = some x → RepV (pureR R hp ks) w (f (q + j)) x
  | [], xs, q, _, hc, _ => by simp [capsOf] at hc; subst hc; simp
  | v :: vs, xs, q, h, hc, hk => by
    simp only [capsOf] at hc
    cases h1 : capOf hp v with
    | none => simp [h1] at hc
    | some x =>
      cases h2 : capsOf hp vs with
      | none => simp [h1, h2] at hc
      | some ys =>
        simp [h1, h2] at hc
        subst hc
        obtain ⟨l1, l2⟩ := capsOf_rep hi ks vs ys (q + 1) (fun j v hv => by have := h (j + 1) v (by simpa using hv); rwa [show q + (j + 1) = q + 1 + j by omega] at this) h2 (fun k hk' => hk k (by simp only [List.flatMap_cons, List.mem_append]; exact .inr hk'))
        refine ⟨by simp [l1], fun j x' hj => ?_⟩
        cases j with
        | zero =>
          simp at hj
          subst hj
          exact capOf_rep hi ks (h 0 v rfl) h1 (fun k hk' => hk k (by simp only [List.flatMap_cons, List.mem_append]; exact .inl hk'))
        | succ j =>
          have := l2 j x' (by simpa using hj)
          rwa [show q + (j + 1) = q + 1 + j by omega]

theorem pureOf_rep (hi : HInv R w hp ck dn) (ks : List Key) {u : Value} {v x : V} (h : RepV R w u v) (hc : pureOf hp v = some x) (hk : ∀ k ∈ keysOf hp v, k ∈ ks) : RepV (pureR R hp ks) w u x := by
  unfold pureOf at hc
  split at hc
  · cases hc; exact .t ((repV_tl h).mono (fun _ h => .inl h) (fun _ _ => rfl))
  · cases hc
    have : u = .slice none 0 0 := by cases h; rfl
    subst this
    exact .t (repT_nil _ _)
  · rename_i k sz off len
    cases ht : treeOf hp (.ow k sz off len) with
    | none => simp [ht] at hc
    | some t =>
      simp [ht] at hc
      subst hc
      exact .t (treeOf_rep hi (fun _ h => .inl h) h ht (fun g hg => .inr (rowsAt_sub (fun k' hk' => hk k' (by simpa [vkeys, keysOf] using hk')) g hg)))
  · rename_i cs
    split at hc
    · rename_i ts hts
      cases hc
      cases h with
      | ag arr _ hn h1 h =>
        obtain ⟨t1, t2⟩ := treesOf_rep (f := fun j => arr.getD j undef) hi (S' := (pureR R hp ks).S) (fun _ h => .inl h) cs 0 (fun j v hv => by rw [Nat.zero_add]; exact h j v hv) hts (fun g' hg' => .inr (rowsAt_sub (fun k' hk' => hk k' (by
            simp only [keysOf]
            exact flatMap_sub (fun x _ k'' hk'' => vkeys_sub1 hp x hk'') hk')) g' hg'))
        refine .ag arr _ (by simp [t1, hn]) h1 (fun j v hv => ?_)
        rw [List.getElem?_map] at hv
        cases hj : ts[j]? with
        | none => simp [hj] at hv
        | some t =>
          simp [hj] at hv
          subst hv
          have := t2 j t hj
          rw [Nat.zero_add] at this
          exact .t this
    · cases hc
  · cases hc
    cases h with
    | pr g o cs f hB hcell hrep => exact .pr g o _ f (fun h => (hB h).imp .inl .inl) hcell (fun j t ht => (hrep j t ht).mono (fun _ h => .inl h) (fun _ _ => rfl))
  · rename_i f caps
    split at hc
    · rename_i cs hcs
      cases hc
      cases h with
      | fn _ arr _ hn h =>
        obtain ⟨l1, l2⟩ := capsOf_rep hi ks (f := fun j => arr.getD j undef) caps cs 0 (fun j v hv => by rw [Nat.zero_add]; exact h j v hv) hcs (fun k hk' => hk k (by simpa [keysOf] using hk'))
        exact .fn f arr cs (by rw [l1, hn]) (fun j v hv => by have := l2 j v hv; rwa [Nat.zero_add] at this)
    · cases hc
  · cases hc

theorem puresOf_rep (hi : HInv R w hp ck dn) (ks : List Key) {f : Nat → Value} : ∀ (vs xs : List V) (q : Nat), (∀ j v, vs[j]? = some v → RepV R w (f (q + j)) v) → puresOf hp vs = some xs → (∀ k ∈ vs.flatMap (keysOf hp), k ∈ ks) → xs.length = vs.length ∧ ∀ j x, xs[j]? = some x → RepV (pureR R hp ks) w (f (q + j)) x
  | [], xs, q, _, hc, _ => by simp [puresOf] at hc; subst hc; simp
  | v :: vs, xs, q, h, hc, hk => by
    simp only [puresOf] at hc
    cases h1 : pureOf hp v with
    | none => simp [h1] at hc
    | some x =>
      cases h2 : puresOf hp vs with
      | none => simp [h1, h2] at hc
      | some ys =>
        simp [h1, h2] at hc
        subst hc
        obtain ⟨l1, l2⟩ := puresOf_rep hi ks vs ys (q + 1) (fun j v hv => by have := h (j + 1) v (by simpa using hv); rwa [show q + (j + 1) = q + 1 + j by omega] at this) h2 (fun k hk' => hk k (by simp only [List.flatMap_cons, List.mem_append]; exact .inr hk'))
        refine ⟨by simp [l1], fun j x' hj => ?_⟩
        cases j with
        | zero =>
          simp at hj
          subst hj
          exact pureOf_rep hi ks (h 0 v rfl) h1 (fun k hk' => hk k (by simp only [List.flatMap_cons, List.mem_append]; exact .inl hk'))
        | succ j =>
          have := l2 j x' (by simpa using hj)
          rwa [show q + (j + 1) = q + 1 + j by omega]

/-! ### results -/
def rowsAll (R : Rl) (hp : HP) (g : Nat) : Prop := ∃ k ty sz els fz n, hp.get k = some (.row ty sz els fz) ∧ R.μ k = some (some (g, n))
theorem rowsAll_of {ks : List Key} {g : Nat} (h : rowsAt R hp ks g) : rowsAll R hp g := by
  obtain ⟨k, _, r⟩ := h
  exact ⟨k, r⟩

theorem resOf1_rep (hi : HInv R w hp ck dn) {S' : Nat → Prop} (hS : ∀ g, R.S g → S' g) (hk : ∀ g, rowsAll R hp g → S' g) (B' : Nat → Prop) (μ' : Key → Option (Option (Nat × Nat))) {u : Value} {v x : V} (h : RepV R w u v) (hc : resOf1 hp v = some x) : RepV ⟨S', B', μ'⟩ w u x := by
  unfold resOf1 at hc
  split at hc
  · cases hc; exact .t ((repV_tl h).mono hS (fun _ _ => rfl))
  · cases hc
    have : u = .slice none 0 0 := by cases h; rfl
    subst this
    exact .t (repT_nil _ _)
  · rename_i k sz off len
    cases ht : treeOf hp (.ow k sz off len) with
    | none => simp [ht] at hc
    | some t =>
      simp [ht] at hc
      subst hc
      exact .t (treeOf_rep hi hS h ht (fun g hg => hk g (rowsAll_of hg)))
  · rename_i cs
    split at hc
    · rename_i ts hts
      cases hc
      cases h with
      | ag arr _ hn h1 h =>
        obtain ⟨t1, t2⟩ := treesOf_rep (f := fun j => arr.getD j undef) hi hS cs 0 (fun j v hv => by rw [Nat.zero_add]; exact h j v hv) hts (fun g' hg' => hk g' (rowsAll_of hg'))
        refine .ag arr _ (by simp [t1, hn]) h1 (fun j v hv => ?_)
        rw [List.getElem?_map] at hv
        cases hj : ts[j]? with
        | none => simp [hj] at hv
        | some t =>
          simp [hj] at hv
          subst hv
          have := t2 j t hj
          rw [Nat.zero_add] at this
          exact .t this
    · cases hc
  · cases hc

theorem resOfs_rep (hi : HInv R w hp ck dn) {S' : Nat → Prop} (hS : ∀ g, R.S g → S' g) (hk : ∀ g, rowsAll R hp g → S' g) (B' : Nat → Prop) (μ' : Key → Option (Option (Nat × Nat))) {f : Nat → Value} : ∀ (vs xs : List V) (q : Nat), (∀ j v, vs[j]? = some v → RepV R w (f (q + j)) v) → resOfs hp vs = some xs → xs.length = vs.length ∧ ∀ j x, xs[j]? = some x → RepV ⟨S', B', μ'⟩ w (f (q + j)) x
  | [], xs, q, _, hc => by simp [resOfs] at hc; subst hc; simp
  | v :: vs, xs, q, h, hc => by
    simp only [resOfs] at hc
    cases h1 : resOf1 hp v with
    | none => simp [h1] at hc
    | some x =>
      cases h2 : resOfs hp vs with
      | none => simp [h1, h2] at hc
      | some ys =>
        simp [h1, h2] at hc
        subst hc
        obtain ⟨l1, l2⟩ := resOfs_rep hi hS hk B' μ' vs ys (q + 1) (fun j v hv => by have := h (j + 1) v (by simpa using hv); rwa [show q + (j + 1) = q + 1 + j by omega] at this) h2
        refine ⟨by simp [l1], fun j x' hj => ?_⟩
        cases j with
        | zero =>
          simp at hj
          subst hj
          exact resOf1_rep hi hS hk B' μ' (h 0 v rfl) h1
        | succ j =>
          have := l2 j x' (by simpa using hj)
          rwa [show q + (j + 1) = q + 1 + j by omega]

theorem resOf_rep (hi : HInv R w hp ck dn) {S' : Nat → Prop} (hS : ∀ g, R.S g → S' g) (hk : ∀ g, rowsAll R hp g → S' g) (B' : Nat → Prop) (μ' : Key → Option (Option (Nat × Nat))) {u : Value} {v x : V} (h : RepV R w u v) (hc : resOf hp v = some x) : RepV ⟨S', B', μ'⟩ w u x := by
  unfold resOf at hc
  split at hc
  · rename_i vs
    split at hc
    · rename_i us hus
      cases hc
      cases h with
      | tu arr _ hn h =>
        obtain ⟨l1, l2⟩ := resOfs_rep hi hS hk B' μ' (f := fun j => arr.getD j undef) vs us 0 (fun j v hv => by rw [Nat.zero_add]; exact h j v hv) hus
        exact .tu arr us (by rw [l1, hn]) (fun j v hv => by have := l2 j v hv; rwa [Nat.zero_add] at this)
    · cases hc
  · exact resOf1_rep hi hS hk B' μ' h hc

theorem flatT_rep {S S' : Nat → Prop} {w : World} {u : Value} {t : T} (h : RepT S w u t) (hf : flatT t = true) : RepT S' w u t := by
  cases h with
  | b x => exact .b x
  | i k n => exact .i k n
  | s x y h => exact .s x y h
  | l => simp [flatT] at hf
  | np => exact .np
  | ni => exact .ni
  | er t v => exact .er t v
theorem flat1_rep {R R' : Rl} {w : World} {u : Value} {v : V} (h : RepV R w u v) (hf : flat1 v = true) : RepV R' w u v := by
  unfold flat1 at hf
  split at hf
  · exact .t (flatT_rep (repV_tl h) hf)
  · rename_i cs
    cases h with
    | ag arr _ hn h1 h =>
      refine .ag arr _ hn h1 (fun j v hv => ?_)
      have hm := List.all_eq_true.1 hf v (List.mem_of_getElem? hv)
      cases v with
      | t x => exact .t (flatT_rep (repV_tl (h j _ hv)) hm)
      | _ => simp at hm
  · cases hf
theorem flatV_rep {R R' : Rl} {w : World} {u : Value} {v : V} (h : RepV R w u v) (hf : flatV v = true) : RepV R' w u v := by
  unfold flatV at hf
  split at hf
  · rename_i vs
    cases h with
    | tu arr _ hn h =>
      exact .tu arr _ hn (fun j v hv => flat1_rep (h j v hv) (List.all_eq_true.1 hf v (List.mem_of_getElem? hv)))
  · exact flat1_rep h hf
end
end Go.Pev
