/- The heap's steps: a new variable, a store, an append, a row that is frozen. -/
import Derived.Test.YthkehbdljckbdaaRel
set_option linter.unusedVariables false
set_option linter.unusedSimpArgs false
namespace Go.Pev
open Go Go.RowKit

def plus (dn : Nat → Prop) (me : Nat) : Nat → Prop := fun x => dn x ∨ x = me

theorem ObRel.mono {R R' : Rl} {w w' : World} (ha : Agree R w R' w') {k : Key} {o : Ob} (hb : ∀ g n, R.μ k = some (some (g, n)) → w'.heap[g]? = w.heap[g]?) (h : ObRel R w k o) : ObRel R' w' k o := by
  cases o with
  | box ty cs =>
    obtain ⟨g, n, arr, h1, h2, h3, h4, h5⟩ := h
    exact ⟨g, n, arr, ha.μ _ _ h1, (hb g n h1).trans h2, h3, h4, fun j v hv => (h5 j v hv).mono ha⟩
  | row ty sz els fz =>
    rcases h with ⟨h1, h2⟩ | ⟨g, n, arr, h1, h2, h3, h4, h5, h6, h7, h8, h9⟩
    · exact .inl ⟨ha.μ _ _ h1, h2⟩
    · exact .inr ⟨g, n, arr, ha.μ _ _ h1, RowAt.at (hb g n h1) h2, h3, h4, h5, h6, h7, fun i j t ht => (h8 i j t ht).mono ha.S ha.hS, fun h => ha.S g (h9 h)⟩

theorem ObRel.lt {R : Rl} {w : World} {k : Key} {o : Ob} (h : ObRel R w k o) {g n : Nat} (hm : R.μ k = some (some (g, n))) : g < w.heap.size := by
  cases o with
  | box ty cs =>
    obtain ⟨g', n', arr, h1, h2, _⟩ := h
    rw [h1] at hm
    cases hm
    exact (Array.getElem?_eq_some_iff.1 h2).1
  | row ty sz els fz =>
    rcases h with ⟨h1, h2⟩ | ⟨g', n', arr, h1, h2, _⟩
    · rw [h1] at hm
      cases hm
    · rw [h1] at hm
      cases hm
      exact RowAt.lt h2

theorem ObRel.μ_some {R : Rl} {w : World} {k : Key} {o : Ob} (h : ObRel R w k o) : ∃ p, R.μ k = some p := by
  cases o with
  | box ty cs =>
    obtain ⟨g', n', arr, h1, h2, _⟩ := h
    exact ⟨_, h1⟩
  | row ty sz els fz =>
    rcases h with ⟨h1, h2⟩ | ⟨g', n', arr, h1, h2, _⟩
    · exact ⟨_, h1⟩
    · exact ⟨_, h1⟩

theorem get_of_mem {h : HP} {k : Key} (hk : k ∈ h.map Prod.fst) : ∃ o, h.get k = some o := by
  cases hg : h.get k with
  | some o => exact ⟨o, rfl⟩
  | none =>
    exfalso
    induction h with
    | nil => simp at hk
    | cons p r ih =>
      obtain ⟨k', o'⟩ := p
      simp only [HP.get] at hg
      by_cases e : k' = k
      · rw [if_pos e] at hg
        cases hg
      · rw [if_neg e] at hg
        simp only [List.map_cons, List.mem_cons] at hk
        exact ih (hk.resolve_left (Ne.symm e)) hg

theorem HInv.fresh {R w hp ck dn} (hi : HInv R w hp ck dn) {k : Key} (hc : k.c = ck) (hd : ¬ dn k.o) : R.μ k = none ∧ k ∉ hp.map Prod.fst := by
  have h0 : R.μ k = none := by
    cases h : R.μ k with
    | none => rfl
    | some p =>
      rcases hi.fr k p h with h1 | h1
      · omega
      · exact absurd h1.2 hd
  refine ⟨h0, fun hm => ?_⟩
  obtain ⟨o, ho⟩ := get_of_mem hm
  obtain ⟨p, hp⟩ := (hi.ob k o ho).μ_some
  rw [h0] at hp
  cases hp

theorem HInv.plus {R w hp ck dn} (hi : HInv R w hp ck dn) (me : Nat) : HInv R w hp ck (plus dn me) :=
  ⟨hi.ob, hi.sep, hi.own, hi.sS, hi.sB, fun k p h => (hi.fr k p h).imp id fun h => ⟨h.1, .inl h.2⟩, hi.nd⟩

def updμ (μ : Key → Option (Option (Nat × Nat))) (k : Key) (p : Option (Nat × Nat)) : Key → Option (Option (Nat × Nat)) := fun q => if q = k then some p else μ q
theorem updμ_same (μ : Key → Option (Option (Nat × Nat))) (k : Key) (p : Option (Nat × Nat)) : updμ μ k p k = some p := if_pos rfl
theorem updμ_other (μ : Key → Option (Option (Nat × Nat))) (k q : Key) (p : Option (Nat × Nat)) (h : q ≠ k) : updμ μ k p q = μ q := if_neg h

/-- A new variable, or a new row: the world may have got one block more. -/
theorem alloc_step {R : Rl} {w w' : World} {hp : HP} {ck me : Nat} {dn : Nat → Prop} (hi : HInv R w hp ck dn) (hd : ¬ dn me) (k : Key) (hk : k.c = ck ∧ k.o = me) (p : Option (Nat × Nat)) (ob : Ob)
    (hos : w'.os = w.os) (htp : w'.tape = w.tape) (hout : w'.output = w.output) (hsz : w.heap.size ≤ w'.heap.size) (hold : ∀ g, g < w.heap.size → w'.heap[g]? = w.heap[g]?)
    (hp_new : ∀ g n, p = some (g, n) → w.heap.size ≤ g)
    (hob : Agree R w { R with μ := updμ R.μ k p } w' → ObRel { R with μ := updμ R.μ k p } w' k ob) :
    Grow R w hp { R with μ := updμ R.μ k p } w' ((k, ob) :: hp) ∧ HInv { R with μ := updμ R.μ k p } w' ((k, ob) :: hp) ck (plus dn me) := by
  obtain ⟨hf, hn⟩ := hi.fresh hk.1 (by rw [hk.2]; exact hd)
  have hμ : ∀ q p', R.μ q = some p' → updμ R.μ k p q = some p' := by
    intro q p' hq
    rw [updμ_other _ _ _ _ (by rintro rfl; rw [hf] at hq; cases hq)]
    exact hq
  have ha : Agree R w { R with μ := updμ R.μ k p } w' := ⟨fun _ h => h, fun _ h => h, hμ, fun g hg => hold g (hi.sS g hg), fun g hg => hold g (hi.sB g hg)⟩
  have hgc : ∀ q, HP.get ((k, ob) :: hp) q = if k = q then some ob else hp.get q := fun q => rfl
  have hne : ∀ q o, hp.get q = some o → k ≠ q := by
    intro q o hq e
    subst e
    exact hn (HP.mem_of_get hq)
  have hown : ∀ g, Own { R with μ := updμ R.μ k p } ((k, ob) :: hp) g → w.heap.size ≤ g ∨ Own R hp g := by
    rintro g ⟨q, o, n, h1, h2, h3⟩
    rw [hgc] at h1
    by_cases e : k = q
    · subst e
      simp only [updμ_same] at h3
      exact .inl (hp_new g n (Option.some.inj h3))
    · rw [if_neg e] at h1
      simp only [updμ_other _ _ _ _ (Ne.symm e)] at h3
      exact .inr ⟨q, o, n, h1, h2, h3⟩
  refine ⟨⟨hos, htp, hout, hsz, fun g hg _ => hold g hg, fun _ h => h, rfl, hμ, fun _ h => .inl h, hown⟩, ?_⟩
  constructor
  · intro q o hq
    rw [hgc] at hq
    by_cases e : k = q
    · subst e
      rw [if_pos rfl] at hq
      cases hq
      exact hob ha
    · rw [if_neg e] at hq
      exact (hi.ob q o hq).mono ha (fun g n hg => hold g ((hi.ob q o hq).lt hg))
  · intro k1 k2 o1 o2 g n1 n2 h1 h2 hl hm1 hm2
    rw [hgc] at h1 h2
    by_cases e1 : k = k1
    · by_cases e2 : k = k2
      · exact e1.symm.trans e2
      · subst e1
        rw [if_neg e2] at h2
        simp only [updμ_same] at hm1
        simp only [updμ_other _ _ _ _ (Ne.symm e2)] at hm2
        have := hp_new g n1 (Option.some.inj hm1)
        have := (hi.ob k2 o2 h2).lt hm2
        omega
    · rw [if_neg e1] at h1
      simp only [updμ_other _ _ _ _ (Ne.symm e1)] at hm1
      by_cases e2 : k = k2
      · subst e2
        simp only [updμ_same] at hm2
        have := hp_new g n2 (Option.some.inj hm2)
        have := (hi.ob k1 o1 h1).lt hm1
        omega
      · rw [if_neg e2] at h2
        simp only [updμ_other _ _ _ _ (Ne.symm e2)] at hm2
        exact hi.sep k1 k2 o1 o2 g n1 n2 h1 h2 hl hm1 hm2
  · intro g hg
    rcases hown g hg with h | h
    · exact ⟨fun hs => by have := hi.sS g hs; omega, fun hs => by have := hi.sB g hs; omega⟩
    · exact hi.own g h
  · exact fun g hg => Nat.lt_of_lt_of_le (hi.sS g hg) hsz
  · exact fun g hg => Nat.lt_of_lt_of_le (hi.sB g hg) hsz
  · intro q p' hq
    by_cases e : q = k
    · subst e
      exact .inr ⟨hk.1, .inr hk.2⟩
    · simp only [updμ_other _ _ _ _ e] at hq
      exact (hi.fr q p' hq).imp id fun h => ⟨h.1, .inl h.2⟩
  · simp only [List.map_cons, List.nodup_cons]
    exact ⟨hn, hi.nd⟩

/-- A store into a variable or row of the call's own; or an append that stays, or moves: then the key is new. -/
theorem put_step {R : Rl} {w w' : World} {hp : HP} {ck me : Nat} {dn : Nat → Prop} (hi : HInv R w hp ck dn) (k k2 : Key) (o ob : Ob) (hko : hp.get k = some o) (hl : live o = true) (p : Option (Nat × Nat))
    (hk2 : (k2 = k ∧ R.μ k = some p) ∨ (k2.c = ck ∧ k2.o = me ∧ ¬ dn me))
    (hos : w'.os = w.os) (htp : w'.tape = w.tape) (hout : w'.output = w.output) (hsz : w.heap.size ≤ w'.heap.size) (hold : ∀ g, g < w.heap.size → (∀ n, R.μ k ≠ some (some (g, n))) → w'.heap[g]? = w.heap[g]?)
    (hp_new : ∀ g n, p = some (g, n) → w.heap.size ≤ g ∨ ∃ n', R.μ k = some (some (g, n')))
    (hfz : live ob = true)
    (hob : Agree R w { R with μ := updμ R.μ k2 p } w' → ObRel { R with μ := updμ R.μ k2 p } w' k2 ob) :
    Grow R w hp { R with μ := updμ R.μ k2 p } w' (hp.put k k2 ob) ∧ HInv { R with μ := updμ R.μ k2 p } w' (hp.put k k2 ob) ck (plus dn me) := by
  have hkm : k ∈ hp.map Prod.fst := HP.mem_of_get hko
  have hfresh : k2 = k ∨ (R.μ k2 = none ∧ k2 ∉ hp.map Prod.fst) := hk2.imp (·.1) fun h => hi.fresh h.1 (by rw [h.2.1]; exact h.2.2)
  have hμ : ∀ q p', R.μ q = some p' → updμ R.μ k2 p q = some p' := by
    intro q p' hq
    by_cases e : q = k2
    · rcases hk2 with ⟨h1, h2⟩ | h
      · subst e
        rw [updμ_same, ← h2, ← h1]
        exact hq
      · have := (hi.fresh h.1 (by rw [h.2.1]; exact h.2.2)).1
        rw [e, this] at hq
        cases hq
    · rw [updμ_other _ _ _ _ e]
      exact hq
  have hownk : ∀ g n, R.μ k = some (some (g, n)) → Own R hp g := fun g n h => ⟨k, o, n, hko, hl, h⟩
  have hS : ∀ g, R.S g → w'.heap[g]? = w.heap[g]? := fun g hg => hold g (hi.sS g hg) (fun n e => (hi.own g (hownk g n e)).1 hg)
  have hB : ∀ g, R.B g → w'.heap[g]? = w.heap[g]? := fun g hg => hold g (hi.sB g hg) (fun n e => (hi.own g (hownk g n e)).2 hg)
  have ha : Agree R w { R with μ := updμ R.μ k2 p } w' := ⟨fun _ h => h, fun _ h => h, hμ, hS, hB⟩
  have hgp : ∀ q, (hp.put k k2 ob).get q = if q = k2 then some ob else if q = k then none else hp.get q := fun q => HP.get_put hi.nd hkm (hfresh.imp id (·.2)) q
  have hown : ∀ g, Own { R with μ := updμ R.μ k2 p } (hp.put k k2 ob) g → w.heap.size ≤ g ∨ Own R hp g := by
    rintro g ⟨q, o', n, h1, h2, h3⟩
    rw [hgp] at h1
    by_cases e : q = k2
    · subst e
      simp only [updμ_same] at h3
      rcases hp_new g n (Option.some.inj h3) with h | ⟨n', h⟩
      · exact .inl h
      · exact .inr (hownk g n' h)
    · rw [if_neg e] at h1
      simp only [updμ_other _ _ _ _ e] at h3
      by_cases e2 : q = k
      · rw [if_pos e2] at h1
        cases h1
      · rw [if_neg e2] at h1
        exact .inr ⟨q, o', n, h1, h2, h3⟩
  have hother : ∀ q o', q ≠ k → hp.get q = some o' → ∀ g n, R.μ q = some (some (g, n)) → w'.heap[g]? = w.heap[g]? := by
    intro q o' hq ho g n hm
    exact hold g ((hi.ob q o' ho).lt hm) (fun n' e => hq (hi.sep k q o o' g n' n hko ho hl e hm).symm)
  refine ⟨⟨hos, htp, hout, hsz, fun g hg hn => hold g hg (fun n e => hn (hownk g n e)), fun _ h => h, rfl, hμ, fun _ h => .inl h, hown⟩, ?_⟩
  constructor
  · intro q o' hq
    rw [hgp] at hq
    by_cases e : q = k2
    · rw [if_pos e] at hq
      subst e
      cases hq
      exact hob ha
    · rw [if_neg e] at hq
      by_cases e2 : q = k
      · rw [if_pos e2] at hq
        cases hq
      · rw [if_neg e2] at hq
        exact (hi.ob q o' hq).mono ha (hother q o' e2 hq)
  · intro k1 k3 o1 o3 g n1 n3 h1 h3 hl1 hm1 hm3
    rw [hgp] at h1 h3
    by_cases e1 : k1 = k2
    · by_cases e3 : k3 = k2
      · exact e1.trans e3.symm
      · exfalso
        subst e1
        rw [if_neg e3] at h3
        simp only [updμ_same] at hm1
        simp only [updμ_other _ _ _ _ e3] at hm3
        by_cases e4 : k3 = k
        · rw [if_pos e4] at h3
          cases h3
        · rw [if_neg e4] at h3
          rcases hp_new g n1 (Option.some.inj hm1) with h | ⟨n', h⟩
          · have := (hi.ob k3 o3 h3).lt hm3
            omega
          · exact e4 (hi.sep k k3 o o3 g n' n3 hko h3 hl h hm3).symm
    · rw [if_neg e1] at h1
      simp only [updμ_other _ _ _ _ e1] at hm1
      by_cases e5 : k1 = k
      · rw [if_pos e5] at h1
        cases h1
      · rw [if_neg e5] at h1
        by_cases e3 : k3 = k2
        · exfalso
          subst e3
          simp only [updμ_same] at hm3
          rcases hp_new g n3 (Option.some.inj hm3) with h | ⟨n', h⟩
          · have := (hi.ob k1 o1 h1).lt hm1
            omega
          · exact e5 (hi.sep k k1 o o1 g n' n1 hko h1 hl h hm1).symm
        · rw [if_neg e3] at h3
          simp only [updμ_other _ _ _ _ e3] at hm3
          by_cases e4 : k3 = k
          · rw [if_pos e4] at h3
            cases h3
          · rw [if_neg e4] at h3
            exact hi.sep k1 k3 o1 o3 g n1 n3 h1 h3 hl1 hm1 hm3
  · intro g hg
    rcases hown g hg with h | h
    · exact ⟨fun hs => by have := hi.sS g hs; omega, fun hs => by have := hi.sB g hs; omega⟩
    · exact hi.own g h
  · exact fun g hg => Nat.lt_of_lt_of_le (hi.sS g hg) hsz
  · exact fun g hg => Nat.lt_of_lt_of_le (hi.sB g hg) hsz
  · intro q p' hq
    by_cases e : q = k2
    · subst e
      rcases hk2 with ⟨h1, h2⟩ | h
      · subst h1
        exact (hi.fr _ _ h2).imp id fun h => ⟨h.1, .inl h.2⟩
      · exact .inr ⟨h.1, .inr h.2.1⟩
    · simp only [updμ_other _ _ _ _ e] at hq
      exact (hi.fr q p' hq).imp id fun h => ⟨h.1, .inl h.2⟩
  · exact HP.nodup_put hi.nd hkm (hfresh.imp id (·.2))

/-! ### rows that are frozen -/
/-- The blocks of the rows that these keys name. -/
def rowsAt (R : Rl) (hp : HP) (ks : List Key) (g : Nat) : Prop := ∃ k ∈ ks, ∃ ty sz els fz n, hp.get k = some (.row ty sz els fz) ∧ R.μ k = some (some (g, n))
def Rl.withS (R : Rl) (S : Nat → Prop) : Rl := { R with S := fun g => R.S g ∨ S g }

theorem freeze1_get {hp : HP} (nd : (hp.map Prod.fst).Nodup) (k q : Key) : (freeze1 hp k).get q = if q = k then (match hp.get k with | some (.row ty sz els _) => some (.row ty sz els true) | x => x) else hp.get q := by
  unfold freeze1
  cases h : hp.get k with
  | none =>
    simp only
    by_cases e : q = k
    · rw [if_pos e, e]; exact h
    · rw [if_neg e]
  | some o =>
    cases o with
    | box ty cs =>
      simp only
      by_cases e : q = k
      · rw [if_pos e, e]; exact h
      · rw [if_neg e]
    | row ty sz els fz =>
      simp only
      rw [HP.get_put nd (HP.mem_of_get h) (.inl rfl)]
      by_cases e : q = k
      · rw [if_pos e, if_pos e]
      · rw [if_neg e, if_neg e, if_neg e]
theorem freeze1_nd {hp : HP} (nd : (hp.map Prod.fst).Nodup) (k : Key) : ((freeze1 hp k).map Prod.fst).Nodup := by
  unfold freeze1
  split
  · rename_i h
    exact HP.nodup_put nd (HP.mem_of_get h) (.inl rfl)
  · exact nd

theorem freeze1_step {R : Rl} {w : World} {hp : HP} {ck : Nat} {dn : Nat → Prop} (hi : HInv R w hp ck dn) (k : Key) :
    Grow R w hp (R.withS (rowsAt R hp [k])) w (freeze1 hp k) ∧ HInv (R.withS (rowsAt R hp [k])) w (freeze1 hp k) ck dn ∧ (∀ g, rowsAt R hp [k] g → R.S g ∨ Own R hp g) := by
  have hro : ∀ g, rowsAt R hp [k] g → R.S g ∨ Own R hp g := by
    rintro g ⟨k', hk', ty, sz, els, fz, n, h1, h2⟩
    rw [List.mem_singleton.1 hk'] at h1 h2
    cases fz with
    | true =>
      rcases hi.ob _ _ h1 with ⟨h3, _⟩ | ⟨g', n', arr, h3, h4, h5, h6, h7, h8, h9, h10, h11⟩
      · rw [h3] at h2; cases h2
      · rw [h3] at h2
        cases h2
        exact .inl (h11 rfl)
    | false => exact .inr ⟨k, _, n, h1, rfl, h2⟩
  have ha : Agree R w (R.withS (rowsAt R hp [k])) w := ⟨fun _ h => .inl h, fun _ h => h, fun _ _ h => h, fun _ _ => rfl, fun _ _ => rfl⟩
  have hg := fun q => freeze1_get hi.nd k q
  have hback : ∀ q o, (freeze1 hp k).get q = some o → ∃ o', hp.get q = some o' ∧ (live o = true → live o' = true) ∧ (q = k → ∀ ty sz els fz, o' = .row ty sz els fz → o = .row ty sz els true) ∧ (q ≠ k → o = o') ∧ (∀ ty cs, o' = .box ty cs → o = o') := by
    intro q o hq
    rw [hg] at hq
    by_cases e : q = k
    · subst e
      rw [if_pos rfl] at hq
      cases h : hp.get q with
      | none => rw [h] at hq; cases hq
      | some o' =>
        rw [h] at hq
        refine ⟨o', rfl, ?_, ?_, fun h => absurd rfl h, ?_⟩
        · cases o' with
          | box ty cs => intro _; rfl
          | row ty sz els fz => simp only at hq; cases hq; intro h; cases h
        · intro _ ty sz els fz ho
          subst ho
          simp only at hq
          cases hq
          rfl
        · intro ty cs ho
          subst ho
          simp only at hq
          cases hq
          rfl
    · rw [if_neg e] at hq
      exact ⟨o, hq, id, fun h => absurd h e, fun _ => rfl, fun _ _ _ => rfl⟩
  have hown : ∀ g, Own (R.withS (rowsAt R hp [k])) (freeze1 hp k) g → Own R hp g := by
    rintro g ⟨q, o, n, h1, h2, h3⟩
    obtain ⟨o', h4, h5, _⟩ := hback q o h1
    exact ⟨q, o', n, h4, h5 h2, h3⟩
  refine ⟨⟨rfl, rfl, rfl, Nat.le_refl _, fun _ _ _ => rfl, fun _ h => .inl h, rfl, fun _ _ h => h, ?_, fun g h => .inr (hown g h)⟩, ?_, hro⟩
  · rintro g (h | h)
    · exact .inl h
    · exact (hro g h).imp id .inr
  constructor
  · intro q o hq
    obtain ⟨o', h4, h5, h6, h7, h8⟩ := hback q o hq
    have h9 := (hi.ob q o' h4).mono ha (fun _ _ _ => rfl)
    by_cases e : q = k
    · cases o' with
      | box ty cs => rw [h8 ty cs rfl]; exact h9
      | row ty sz els fz =>
        rw [h6 e ty sz els fz rfl]
        rcases h9 with h | ⟨g, n, arr, a1, a2, a3, a4, a5, a6, a7, a8, a9⟩
        · exact .inl h
        · exact .inr ⟨g, n, arr, a1, a2, a3, a4, a5, a6, a7, a8, fun _ => .inr ⟨k, by simp, ty, sz, els, fz, n, by rw [← e]; exact h4, by rw [← e]; exact a1⟩⟩
    · rw [h7 e]; exact h9
  · intro k1 k2 o1 o2 g n1 n2 h1 h2 hl hm1 hm2
    obtain ⟨o1', h3, h4, _⟩ := hback k1 o1 h1
    obtain ⟨o2', h5, _⟩ := hback k2 o2 h2
    exact hi.sep k1 k2 o1' o2' g n1 n2 h3 h5 (h4 hl) hm1 hm2
  · intro g hg
    refine ⟨?_, fun hb => (hi.own g (hown g hg)).2 hb⟩
    rintro (h | h)
    · exact (hi.own g (hown g hg)).1 h
    · obtain ⟨q, o, n, h1, h2, h3⟩ := hg
      obtain ⟨k', hk', ty, sz, els, fz, n', h4, h5⟩ := h
      rw [List.mem_singleton.1 hk'] at h4 h5
      obtain ⟨o', h6, h7, h8, _⟩ := hback q o h1
      have e := hi.sep q k o' _ g n n' h6 h4 (h7 h2) h3 h5
      rw [e, h4] at h6
      cases h6
      have := h8 e ty sz els fz rfl
      rw [this] at h2
      cases h2
  · rintro g (h | h)
    · exact hi.sS g h
    · rcases hro g h with h | ⟨q, o, n, h1, h2, h3⟩
      · exact hi.sS g h
      · exact (hi.ob q o h1).lt h3
  · exact hi.sB
  · exact hi.fr
  · exact freeze1_nd hi.nd k

theorem rowsAt_freeze1 {R : Rl} {hp : HP} (nd : (hp.map Prod.fst).Nodup) (k : Key) (ks : List Key) (R' : Rl) (hR : R'.μ = R.μ) (g : Nat) : rowsAt R' (freeze1 hp k) ks g ↔ rowsAt R hp ks g := by
  constructor
  · rintro ⟨k', hk', ty, sz, els, fz, n, h1, h2⟩
    rw [hR] at h2
    rw [freeze1_get nd] at h1
    by_cases e : k' = k
    · rw [if_pos e] at h1
      cases h : hp.get k with
      | none => rw [h] at h1; cases h1
      | some o =>
        rw [h] at h1
        cases o with
        | box _ _ => cases h1
        | row ty' sz' els' fz' => exact ⟨k', hk', ty', sz', els', fz', n, by rw [e]; exact h, h2⟩
    · rw [if_neg e] at h1
      exact ⟨k', hk', ty, sz, els, fz, n, h1, h2⟩
  · rintro ⟨k', hk', ty, sz, els, fz, n, h1, h2⟩
    by_cases e : k' = k
    · refine ⟨k', hk', ty, sz, els, true, n, ?_, by rw [hR]; exact h2⟩
      rw [freeze1_get nd, if_pos e, ← e, h1]
    · refine ⟨k', hk', ty, sz, els, fz, n, ?_, by rw [hR]; exact h2⟩
      rw [freeze1_get nd, if_neg e]
      exact h1

theorem freezeAll_step {w : World} {ck : Nat} {dn : Nat → Prop} : ∀ (ks : List Key) {R : Rl} {hp : HP} (hi : HInv R w hp ck dn),
    ∃ R', R'.μ = R.μ ∧ R'.B = R.B ∧ (∀ g, R'.S g ↔ R.S g ∨ rowsAt R hp ks g) ∧ Grow R w hp R' w (freezeAll hp ks) ∧ HInv R' w (freezeAll hp ks) ck dn
  | [], R, hp, hi => ⟨R, rfl, rfl, fun g => ⟨.inl, fun h => h.elim id fun ⟨k, hk, _⟩ => by simp at hk⟩, Grow.refl _ _ _, hi⟩
  | k :: ks, R, hp, hi => by
    obtain ⟨g1, h1, _⟩ := freeze1_step hi k
    obtain ⟨R', m1, m2, m3, g2, h2⟩ := freezeAll_step ks h1
    refine ⟨R', m1, m2, fun g => ?_, g1.trans g2, h2⟩
    rw [m3, rowsAt_freeze1 hi.nd k ks (R.withS (rowsAt R hp [k])) rfl]
    constructor
    · rintro ((h | ⟨k', hk', h⟩) | ⟨k', hk', h⟩)
      · exact .inl h
      · exact .inr ⟨k', by rw [List.mem_singleton.1 hk']; exact List.mem_cons_self, h⟩
      · exact .inr ⟨k', List.mem_cons_of_mem _ hk', h⟩
    · rintro (h | ⟨k', hk', h⟩)
      · exact .inl (.inl h)
      · rcases List.mem_cons.1 hk' with e | e
        · exact .inl (.inr ⟨k', by rw [e]; simp, h⟩)
        · exact .inr ⟨k', e, h⟩
end Go.Pev
