/- Heaps that say the same, in whatever order they were made. -/
import Derived.Test.YthkehbdljckbdaaRel
set_option linter.unusedVariables false
set_option linter.unusedSimpArgs false
namespace Go.Pev
open Go

structure HPe (h h' : HP) : Prop where
  get : ∀ k, h.get k = h'.get k
  perm : (h.map Prod.fst).Perm (h'.map Prod.fst)
theorem HPe.refl (h : HP) : HPe h h := ⟨fun _ => rfl, .refl _⟩
theorem HPe.symm {h h' : HP} (e : HPe h h') : HPe h' h := ⟨fun k => (e.get k).symm, e.perm.symm⟩
theorem HPe.trans {a b c : HP} (e : HPe a b) (f : HPe b c) : HPe a c := ⟨fun k => (e.get k).trans (f.get k), e.perm.trans f.perm⟩
theorem HPe.cons {h h' : HP} (e : HPe h h') (k : Key) (o : Ob) : HPe ((k, o) :: h) ((k, o) :: h') :=
  ⟨fun q => by simp only [HP.get, e.get], by simp only [List.map_cons]; exact e.perm.cons k⟩
theorem HPe.swap (h : HP) {k1 k2 : Key} (hne : k1 ≠ k2) (o1 o2 : Ob) : HPe ((k1, o1) :: (k2, o2) :: h) ((k2, o2) :: (k1, o1) :: h) :=
  ⟨fun q => by
    simp only [HP.get]
    by_cases e1 : k1 = q
    · subst e1; rw [if_pos rfl, if_neg (Ne.symm hne), if_pos rfl]
    · rw [if_neg e1]
      by_cases e2 : k2 = q
      · rw [if_pos e2, if_pos e2]
      · rw [if_neg e2, if_neg e2, if_neg e1], by simp only [List.map_cons]; exact .swap _ _ _⟩
theorem get_put1 (h : HP) (k : Key) (o : Ob) (q : Key) : (h.put k k o).get q = if q = k then (h.get k).map (fun _ => o) else h.get q := by
  induction h with
  | nil => simp [HP.put, HP.get]
  | cons p r ih =>
    obtain ⟨k', o'⟩ := p
    simp only [HP.put]
    by_cases e : k' = k
    · subst e
      rw [if_pos rfl]
      simp only [HP.get, if_true]
      by_cases e2 : k' = q
      · subst e2; simp
      · rw [if_neg e2, if_neg (Ne.symm e2), if_neg e2]
    · rw [if_neg e]
      simp only [HP.get, if_neg e]
      by_cases e2 : k' = q
      · subst e2; rw [if_pos rfl, if_neg e, if_pos rfl]
      · rw [if_neg e2, if_neg e2, ih]
theorem keys_put1 (h : HP) (k : Key) (o : Ob) : (h.put k k o).map Prod.fst = h.map Prod.fst := by
  induction h with
  | nil => rfl
  | cons p r ih =>
    obtain ⟨k', o'⟩ := p
    simp only [HP.put]
    by_cases e : k' = k
    · subst e; rw [if_pos rfl]; rfl
    · rw [if_neg e]; simp only [List.map_cons, ih]
theorem HPe.put {h h' : HP} (e : HPe h h') (k : Key) (o : Ob) : HPe (h.put k k o) (h'.put k k o) :=
  ⟨fun q => by rw [get_put1, get_put1, e.get, e.get], by rw [keys_put1, keys_put1]; exact e.perm⟩
theorem HPe.freeze1 {h h' : HP} (e : HPe h h') (k : Key) : HPe (freeze1 h k) (freeze1 h' k) := by
  unfold Go.Pev.freeze1
  rw [← e.get]
  cases h.get k with
  | none => exact e
  | some o => cases o with
    | box ty cs => exact e
    | row ty sz els fz => exact e.put _ _
theorem HPe.freezeAll : ∀ (ks : List Key) {h h' : HP} (e : HPe h h'), HPe (freezeAll h ks) (freezeAll h' ks)
  | [], _, _, e => e
  | k :: ks, _, _, e => HPe.freezeAll ks (e.freeze1 k)

section
variable {h h' : HP} (e : HPe h h')
include e
theorem treeOf_e (v : V) : treeOf h v = treeOf h' v := by
  cases v <;> try rfl
  simp only [treeOf, e.get]
theorem treesOf_e : ∀ (vs : List V), treesOf h vs = treesOf h' vs
  | [] => rfl
  | v :: r => by simp only [treesOf, treeOf_e e v, treesOf_e r]
theorem capOf_e (v : V) : capOf h v = capOf h' v := by
  cases v <;> try rfl
  · simp only [capOf, treeOf_e e]
  · rename_i q sz i j
    rcases i with _ | i <;> try rfl
    rcases j with _ | j <;> try rfl
    simp only [capOf, e.get]
    cases h'.get q with
    | none => rfl
    | some o => cases o with
      | row _ _ _ _ => rfl
      | box ty cs => simp only [treesOf_e e]
theorem capsOf_e : ∀ (vs : List V), capsOf h vs = capsOf h' vs
  | [] => rfl
  | v :: r => by simp only [capsOf, capOf_e e v, capsOf_e r]
theorem pureOf_e (v : V) : pureOf h v = pureOf h' v := by
  cases v <;> try rfl
  · simp only [pureOf, treeOf_e e]
  · simp only [pureOf, treesOf_e e]
  · simp only [pureOf, capsOf_e e]
theorem puresOf_e : ∀ (vs : List V), puresOf h vs = puresOf h' vs
  | [] => rfl
  | v :: r => by simp only [puresOf, pureOf_e e v, puresOf_e r]
theorem keysOf1_e (v : V) : keysOf1 h v = keysOf1 h' v := by
  cases v <;> try rfl
  rename_i q sz i j
  rcases i with _ | i <;> try rfl
  rcases j with _ | j <;> try rfl
  simp only [keysOf1, e.get]
theorem keysOf1_ef : keysOf1 h = keysOf1 h' := funext (keysOf1_e e)
theorem keysOf_e (v : V) : keysOf h v = keysOf h' v := by
  cases v <;> simp only [keysOf, keysOf1_ef e]
theorem keysOf_ef : keysOf h = keysOf h' := funext (keysOf_e e)
theorem load_e (agg : Bool) (n : Nat) (v : V) : load h agg n v = load h' agg n v := by
  cases v <;> simp only [load, e.get]
theorem treesC_e (v : V) : treesC h v = treesC h' v := by
  unfold treesC
  cases cells v with
  | none => rfl
  | some cs => exact treesOf_e e cs
theorem elsOf_e (sz : Nat) (v : V) : elsOf h sz v = elsOf h' sz v := by
  unfold elsOf
  rw [treeOf_e e]
theorem callQ_e (run : Run) (f : Nat) (as : List V) : callQ run f as h = callQ run f as h' := by
  unfold callQ
  rw [puresOf_e e, keysOf_ef e]
theorem rowsOf_e (env : Env) (sz : Nat) : ∀ (xs : List Opd), rowsOf h env sz xs = rowsOf h' env sz xs
  | [] => rfl
  | x :: r => by simp only [rowsOf, treesC_e e, rowsOf_e env sz r]
theorem keysOfs_e (env : Env) : ∀ (xs : List Opd), keysOfs h env xs = keysOfs h' env xs
  | [] => rfl
  | x :: r => by simp only [keysOfs, keysOf1_ef e, keysOfs_e env r]
theorem store_e {n : Nat} {v a : V} {h1 : HP} (hs : store h n v a = some h1) : ∃ h1', store h' n v a = some h1' ∧ HPe h1 h1' := by
  cases a <;> try (simp [store] at hs; done)
  rename_i k sz i j
  simp only [store] at hs ⊢
  rw [← e.get]
  cases ho : h.get k with
  | none => rw [ho] at hs; cases hs
  | some o =>
    rw [ho] at hs
    cases o with
    | box ty cs =>
      simp only at hs ⊢
      cases hc : cells v with
      | none => rw [hc] at hs; cases hs
      | some vs =>
        rw [hc] at hs
        simp only at hs ⊢
        split at hs
        · rename_i hcond
          cases hs
          rw [if_pos hcond]
          exact ⟨_, rfl, e.put _ _⟩
        · cases hs
    | row ty sz2 els fz =>
      simp only at hs ⊢
      rw [← treesC_e e, ← keysOf_e e]
      have ef := e.freezeAll (keysOf h v)
      cases ht : treesC h v with
      | none => rw [ht] at hs; cases hs
      | some ts =>
        rw [ht] at hs
        simp only at hs ⊢
        rw [← ef.get]
        cases hg : (Go.Pev.freezeAll h (keysOf h v)).get k with
        | none => rw [hg] at hs; cases hs
        | some o2 =>
          rw [hg] at hs
          cases o2 with
          | box _ _ => cases hs
          | row ty3 sz3 els3 fz3 =>
            cases fz3 with
            | true => cases hs
            | false =>
              simp only at hs ⊢
              split at hs
              · rename_i hsz
                rw [if_pos hsz]
                cases hel : els3[i]? with
                | none => rw [hel] at hs; cases hs
                | some c =>
                  rw [hel] at hs
                  simp only at hs ⊢
                  split at hs
                  · rename_i hcond
                    cases hs
                    rw [if_pos hcond]
                    exact ⟨_, rfl, ef.put _ _⟩
                  · cases hs
              · cases hs
end
theorem load_put {h : HP} {k q : Key} (hq : q ≠ k) (o : Ob) (agg : Bool) (m sz i j : Nat) : load (h.put k k o) agg m (.pt q sz i j) = load h agg m (.pt q sz i j) := by
  simp only [load, get_put1, if_neg hq]
theorem load_freeze1 (h : HP) (k : Key) (agg : Bool) (m : Nat) (p : V) : load (freeze1 h k) agg m p = load h agg m p := by
  cases p <;> try rfl
  rename_i q sz i j
  unfold freeze1
  cases hk : h.get k with
  | none => rfl
  | some o => cases o with
    | box ty cs => rfl
    | row ty sz els fz =>
      by_cases e : q = k
      · subst e
        simp only [load, get_put1, hk, if_true, Option.map_some]
      · exact load_put e _ _ _ _ _ _
theorem load_freezeAll (agg : Bool) (m : Nat) (p : V) : ∀ (ks : List Key) (h : HP), load (freezeAll h ks) agg m p = load h agg m p
  | [], h => rfl
  | k :: ks, h => by
    show load (freezeAll (freeze1 h k) ks) agg m p = _
    rw [load_freezeAll agg m p ks, load_freeze1]
theorem freeze1_box (h : HP) (k q : Key) (ty : Nat) (cs : List V) : (freeze1 h k).get q = some (.box ty cs) ↔ h.get q = some (.box ty cs) := by
  unfold freeze1
  cases hk : h.get k with
  | none => exact Iff.rfl
  | some o => cases o with
    | box ty cs => exact Iff.rfl
    | row ty sz els fz =>
      simp only [get_put1, hk]
      by_cases e : q = k
      · subst e; simp [hk]
      · rw [if_neg e]
theorem freezeAll_box (q : Key) (ty : Nat) (cs : List V) : ∀ (ks : List Key) (h : HP), (freezeAll h ks).get q = some (.box ty cs) ↔ h.get q = some (.box ty cs)
  | [], h => Iff.rfl
  | k :: ks, h => (freezeAll_box q ty cs ks (freeze1 h k)).trans (freeze1_box h k q ty cs)
theorem store_box {h h' : HP} {n : Nat} {v a : V} (hs : store h n v a = some h') (hr : isRow h a = true) (q : Key) (ty : Nat) (cs : List V) : h'.get q = some (.box ty cs) ↔ h.get q = some (.box ty cs) := by
  cases a <;> try (simp [store] at hs; done)
  rename_i k sz i j
  simp only [store, isRow] at hs hr
  cases ho : h.get k with
  | none => rw [ho] at hs; cases hs
  | some o =>
    rw [ho] at hs hr
    cases o with
    | box ty cs => cases hr
    | row ty sz2 els fz =>
      simp only at hs
      cases ht : treesC h v with
      | none => rw [ht] at hs; cases hs
      | some ts =>
        rw [ht] at hs
        simp only at hs
        cases hg : (Go.Pev.freezeAll h (keysOf h v)).get k with
        | none => rw [hg] at hs; cases hs
        | some o2 =>
          rw [hg] at hs
          cases o2 with
          | box _ _ => cases hs
          | row ty3 sz3 els3 fz3 =>
            cases fz3 with
            | true => cases hs
            | false =>
              simp only at hs
              split at hs
              · cases hel : els3[i]? with
                | none => rw [hel] at hs; cases hs
                | some c =>
                  rw [hel] at hs
                  simp only at hs
                  split at hs
                  · cases hs
                    rw [get_put1, hg]
                    by_cases e : q = k
                    · subst e; rw [ho]; simp
                    · rw [if_neg e]; exact freezeAll_box q _ _ _ h
                  · cases hs
              · cases hs
/-- Boxes as they were: what was loaded from one is there still. -/
theorem load_kept {h h' : HP} {p : V} (hk : ∀ q ty cs, h.get q = some (.box ty cs) → h'.get q = some (.box ty cs)) (hb : isBox h p = true) (agg : Bool) (m : Nat) : isBox h' p = true ∧ load h' agg m p = load h agg m p := by
  cases p <;> try (simp [isBox] at hb; done)
  · rename_i k sz i j
    simp only [isBox] at hb ⊢
    cases ho : h.get k with
    | none => rw [ho] at hb; cases hb
    | some o => cases o with
      | row _ _ _ _ => rw [ho] at hb; cases hb
      | box ty cs => simp only [load, hk _ _ _ ho, ho, and_self]
  · exact ⟨rfl, rfl⟩
theorem isBox_e {h h' : HP} (e : HPe h h') (v : V) : isBox h v = isBox h' v := by
  cases v <;> simp only [isBox, e.get]
theorem isRow_e {h h' : HP} (e : HPe h h') (v : V) : isRow h v = isRow h' v := by
  cases v <;> simp only [isRow, e.get]
theorem callO_e {h h' : HP} (e : HPe h h') (C : Cfg) (run : Run) (f : Nat) (as : List V) (k : Key) : callO C run f as h k = callO C run f as h' k := by
  unfold callO
  rw [keysOf_ef e, puresOf_e e]
theorem store_load {h h' : HP} {n : Nat} {v a p : V} (hs : store h n v a = some h') (hap : apart a p = true) (agg : Bool) (m : Nat) : load h' agg m p = load h agg m p := by
  cases a <;> try (simp [store] at hs; done)
  rename_i k sz i j
  cases p <;> try rfl
  rename_i q sz' i' j'
  have hne : q ≠ k := by simpa [apart] using hap
  simp only [store] at hs
  cases ho : h.get k with
  | none => rw [ho] at hs; cases hs
  | some o =>
    rw [ho] at hs
    cases o with
    | box ty cs =>
      simp only at hs
      cases hc : cells v with
      | none => rw [hc] at hs; cases hs
      | some vs =>
        rw [hc] at hs
        simp only at hs
        split at hs
        · cases hs
          exact load_put hne _ _ _ _ _ _
        · cases hs
    | row ty sz2 els fz =>
      simp only at hs
      cases ht : treesC h v with
      | none => rw [ht] at hs; cases hs
      | some ts =>
        rw [ht] at hs
        simp only at hs
        cases hg : (Go.Pev.freezeAll h (keysOf h v)).get k with
        | none => rw [hg] at hs; cases hs
        | some o2 =>
          rw [hg] at hs
          cases o2 with
          | box _ _ => cases hs
          | row ty3 sz3 els3 fz3 =>
            cases fz3 with
            | true => cases hs
            | false =>
              simp only at hs
              split at hs
              · cases hel : els3[i]? with
                | none => rw [hel] at hs; cases hs
                | some c =>
                  rw [hel] at hs
                  simp only at hs
                  split at hs
                  · cases hs
                    rw [load_put hne, load_freezeAll]
                  · cases hs
              · cases hs
theorem HInv.hpe {R : Rl} {w : World} {hp hp' : HP} {ck : Nat} {dn : Nat → Prop} (hi : HInv R w hp ck dn) (e : HPe hp hp') : HInv R w hp' ck dn where
  ob := fun k o h => hi.ob k o (by rw [e.get]; exact h)
  sep := fun k1 k2 o1 o2 g n1 n2 h1 h2 => hi.sep k1 k2 o1 o2 g n1 n2 (by rw [e.get]; exact h1) (by rw [e.get]; exact h2)
  own := fun g ⟨k, o, n, h1, h2, h3⟩ => hi.own g ⟨k, o, n, by rw [e.get]; exact h1, h2, h3⟩
  sS := hi.sS
  sB := hi.sB
  fr := hi.fr
  nd := e.perm.nodup_iff.1 hi.nd
theorem Grow.hpe {R R' : Rl} {w w' : World} {hp hp1 hp2 : HP} (g : Grow R w hp R' w' hp1) (e : HPe hp1 hp2) : Grow R w hp R' w' hp2 :=
  ⟨g.os, g.tape, g.output, g.size, g.keep, g.S, g.B, g.μ, g.S', fun q ⟨k, o, n, h1, h2, h3⟩ => g.own q ⟨k, o, n, by rw [e.get]; exact h1, h2, h3⟩⟩
end Go.Pev
