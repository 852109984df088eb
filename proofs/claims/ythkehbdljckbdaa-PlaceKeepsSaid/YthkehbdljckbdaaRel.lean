/- How the pure evaluator's values lie in the machine's memory, and what keeps that true. -/
import Derived.Test.YthkehbdljckbdaaCore
set_option linter.unusedVariables false
set_option linter.unusedSimpArgs false
namespace Go.Pev
open Go Go.RowKit

def at2 (xs : List (List T)) (i j : Nat) : Option T := (xs[i]?).bind (·[j]?)

structure Rl where
  S : Nat → Prop
  B : Nat → Prop
  μ : Key → Option (Option (Nat × Nat))

inductive RepT (S : Nat → Prop) (w : World) : Value → T → Prop where
  | b (x : Bool) : RepT S w (.bool x) (.b x)
  | i (k : IntKind) (n : Int) : RepT S w (.int k n) (.i k n)
  | s (x : ByteArray) (y : List UInt8) (h : x.data.toList = y) : RepT S w (.string x) (.s y)
  | l (A : Option Addr) (n c : Nat) (xs : List (List T)) (sz g o : Nat) (f : Nat → Nat → Value) (hl : xs.length = n) (hc : n ≤ c) (hA : 0 < n → A = some ⟨g, o, none⟩) (hS : 0 < n → S g) (hsz : ∀ cs ∈ xs, cs.length = sz)
      (hcell : ∀ i j t, at2 xs i j = some t → w.cell? ⟨g, o + (i * sz + j), none⟩ = some (f i j))
      (hrep : ∀ i j t, at2 xs i j = some t → RepT S w (f i j) t) : RepT S w (.slice A n c) (.l xs)
  | np : RepT S w (.pointer none) .np
  | ni : RepT S w .nilIface .ni
  | er (t : TypeId) (v : Value) : RepT S w (.iface t v) .er

inductive RepV (R : Rl) (w : World) : Value → V → Prop where
  | t {v : Value} {x : T} (h : RepT R.S w v x) : RepV R w v (.t x)
  | ow (k : Key) (sz off len g tot : Nat) (A : Option Addr) (cap : Nat) (hμ : R.μ k = some (some (g, tot))) (hl : len ≤ cap) (hc : off + cap = tot) (hA : 0 < cap → A = some ⟨g, off * sz, none⟩) : RepV R w (.slice A len cap) (.ow k sz off len)
  | owv (k : Key) (sz : Nat) (hμ : R.μ k = some none) : RepV R w (.slice none 0 0) (.ow k sz 0 0)
  | nl : RepV R w (.slice none 0 0) .nl
  | pt (k : Key) (sz i j g n : Nat) (hμ : R.μ k = some (some (g, n))) : RepV R w (.pointer (some ⟨g, i * sz + j, none⟩)) (.pt k sz i j)
  | pr (g o : Nat) (cs : List T) (f : Nat → Value) (hB : cs ≠ [] → R.S g ∨ R.B g) (hcell : ∀ j t, cs[j]? = some t → w.cell? ⟨g, o + j, none⟩ = some (f j)) (hrep : ∀ j t, cs[j]? = some t → RepT R.S w (f j) t) :
      RepV R w (.pointer (some ⟨g, o, none⟩)) (.pr cs)
  | ag (arr : Array Value) (cs : List V) (hn : arr.size = cs.length) (h1 : ∀ j, j < arr.size → (arr.getD j undef).oneCell' = true) (h : ∀ j v, cs[j]? = some v → RepV R w (arr.getD j undef) v) : RepV R w (.agg arr) (.ag cs)
  | tu (arr : Array Value) (vs : List V) (hn : arr.size = vs.length) (h : ∀ j v, vs[j]? = some v → RepV R w (arr.getD j undef) v) : RepV R w (.tuple arr) (.tu vs)
  | fn (f : Nat) (arr : Array Value) (caps : List V) (hn : arr.size = caps.length) (h : ∀ j v, caps[j]? = some v → RepV R w (arr.getD j undef) v) : RepV R w (.func (.func f) #[] arr) (.fn f caps)
  | ud : RepV R w undef .ud
  | un (v : Value) : RepV R w v .un
  | nn (A : Addr) (c : Nat) : RepV R w (.slice (some A) 0 c) .nn
  | nz (c : Nat) : RepV R w (.slice none 0 c) .nz

/-- A row's block; it may bear the mark of a string's bytes behind its cells. -/
def RowAt (w : World) (g : Nat) (arr : Array Value) (ty : TypeId) : Prop := ∃ mk : Nat × Nat, w.heap[g]? = some (.cells arr ty mk) ∧ ∀ j, j < arr.size → ¬ (mk.1 ≤ j ∧ j < mk.2)
theorem RowAt.of {w : World} {g : Nat} {arr : Array Value} {ty : TypeId} (h : w.heap[g]? = some (.cells arr ty (0, 0))) : RowAt w g arr ty := ⟨_, h, fun j _ => by simp⟩
theorem RowAt.at {w w' : World} {g : Nat} {arr : Array Value} {ty : TypeId} (hb : w'.heap[g]? = w.heap[g]?) (h : RowAt w g arr ty) : RowAt w' g arr ty := by
  obtain ⟨mk, h1, h2⟩ := h
  exact ⟨mk, hb.trans h1, h2⟩
theorem RowAt.lt {w : World} {g : Nat} {arr : Array Value} {ty : TypeId} (h : RowAt w g arr ty) : g < w.heap.size := by
  obtain ⟨mk, h1, _⟩ := h
  exact (Array.getElem?_eq_some_iff.1 h1).1

def ObRel (R : Rl) (w : World) (k : Key) : Ob → Prop
  | .box ty cs => ∃ g n arr, R.μ k = some (some (g, n)) ∧ w.heap[g]? = some (.cells arr ty (0, 0)) ∧ arr.size = cs.length ∧ (∀ j, j < arr.size → (arr.getD j undef).oneCell' = true) ∧ ∀ j v, cs[j]? = some v → RepV R w (arr.getD j undef) v
  | .row ty sz els fz => (R.μ k = some none ∧ els = []) ∨ ∃ g tot arr, R.μ k = some (some (g, tot)) ∧ RowAt w g arr ty ∧ arr.size = tot * sz ∧ els.length ≤ tot ∧ tot ≤ maxLen ∧ (∀ c ∈ els, c.length = sz) ∧
      (∀ j, j < arr.size → (arr.getD j undef).oneCell' = true) ∧ (∀ i j t, at2 els i j = some t → RepT R.S w (arr.getD (i * sz + j) undef) t) ∧ (fz = true → R.S g)

def live : Ob → Bool
  | .box .. => true
  | .row _ _ _ fz => !fz

def Own (R : Rl) (hp : HP) (g : Nat) : Prop := ∃ k o n, hp.get k = some o ∧ live o = true ∧ R.μ k = some (some (g, n))

/-- What is known of the heap. -/
structure HInv (R : Rl) (w : World) (hp : HP) (ck : Nat) (dn : Nat → Prop) : Prop where
  ob : ∀ k o, hp.get k = some o → ObRel R w k o
  sep : ∀ k1 k2 o1 o2 g n1 n2, hp.get k1 = some o1 → hp.get k2 = some o2 → live o1 = true → R.μ k1 = some (some (g, n1)) → R.μ k2 = some (some (g, n2)) → k1 = k2
  own : ∀ g, Own R hp g → ¬ R.S g ∧ ¬ R.B g
  sS : ∀ g, R.S g → g < w.heap.size
  sB : ∀ g, R.B g → g < w.heap.size
  fr : ∀ k p, R.μ k = some p → k.c < ck ∨ (k.c = ck ∧ dn k.o)
  nd : (hp.map Prod.fst).Nodup

structure Inv (R : Rl) (w : World) (a : Act) (s : St) (dn : Nat → Prop) (N : Nat) : Prop where
  df : a.defers = []
  sz : a.tmps.size = N
  env : ∀ t, RepV R w (a.tmps.getD t undef) (s.env.get t)
  hi : HInv R w s.hp s.ck dn

structure Grow (R : Rl) (w : World) (hp : HP) (R' : Rl) (w' : World) (hp' : HP) : Prop where
  os : w'.os = w.os
  tape : w'.tape = w.tape
  output : w'.output = w.output
  size : w.heap.size ≤ w'.heap.size
  keep : ∀ g, g < w.heap.size → ¬ Own R hp g → w'.heap[g]? = w.heap[g]?
  S : ∀ g, R.S g → R'.S g
  B : R'.B = R.B
  μ : ∀ k p, R.μ k = some p → R'.μ k = some p
  S' : ∀ g, R'.S g → R.S g ∨ w.heap.size ≤ g ∨ Own R hp g
  own : ∀ g, Own R' hp' g → w.heap.size ≤ g ∨ Own R hp g

theorem Grow.refl (R : Rl) (w : World) (hp : HP) : Grow R w hp R w hp :=
  ⟨rfl, rfl, rfl, Nat.le_refl _, fun _ _ _ => rfl, fun _ h => h, rfl, fun _ _ h => h, fun _ h => .inl h, fun _ h => .inr h⟩

theorem Grow.trans {R w hp R1 w1 hp1 R2 w2 hp2} (h : Grow R w hp R1 w1 hp1) (k : Grow R1 w1 hp1 R2 w2 hp2) : Grow R w hp R2 w2 hp2 where
  os := k.os.trans h.os
  tape := k.tape.trans h.tape
  output := k.output.trans h.output
  size := Nat.le_trans h.size k.size
  keep := fun g hg hn => (k.keep g (Nat.lt_of_lt_of_le hg h.size) (fun ho => by
    rcases h.own g ho with h1 | h1
    · omega
    · exact hn h1)).trans (h.keep g hg hn)
  S := fun g hg => k.S g (h.S g hg)
  B := k.B.trans h.B
  μ := fun q p hq => k.μ q p (h.μ q p hq)
  S' := fun g hg => by
    rcases k.S' g hg with h1 | h1 | h1
    · exact h.S' g h1
    · exact .inr (.inl (Nat.le_trans h.size h1))
    · rcases h.own g h1 with h2 | h2
      · exact .inr (.inl h2)
      · exact .inr (.inr h2)
  own := fun g hg => by
    rcases k.own g hg with h1 | h1
    · exact .inl (Nat.le_trans h.size h1)
    · exact h.own g h1

theorem RepT.mono {S S' : Nat → Prop} {w w' : World} (hS : ∀ g, S g → S' g) (hw : ∀ g, S g → w'.heap[g]? = w.heap[g]?) {v : Value} {t : T} (h : RepT S w v t) : RepT S' w' v t := by
  induction h with
  | b x => exact .b x
  | i k n => exact .i k n
  | s x y h => exact .s x y h
  | l A n c xs sz g o f hl hc hA hS0 hsz hcell hrep ih =>
    refine .l A n c xs sz g o f hl hc hA (fun h => hS g (hS0 h)) hsz (fun i j t ht => ?_) ih
    have hn : 0 < n := by
      unfold at2 at ht
      cases hx : xs[i]? with
      | none => simp [hx] at ht
      | some y => have := (List.getElem?_eq_some_iff.1 hx).1; omega
    rw [World.cell?_of_block (w := w) (hw g (hS0 hn))]
    exact hcell i j t ht
  | np => exact .np
  | ni => exact .ni
  | er t v => exact .er t v

structure Agree (R : Rl) (w : World) (R' : Rl) (w' : World) : Prop where
  S : ∀ g, R.S g → R'.S g
  B : ∀ g, R.B g → R'.B g
  μ : ∀ k p, R.μ k = some p → R'.μ k = some p
  hS : ∀ g, R.S g → w'.heap[g]? = w.heap[g]?
  hB : ∀ g, R.B g → w'.heap[g]? = w.heap[g]?

theorem RepV.mono {R R' : Rl} {w w' : World} (ha : Agree R w R' w') {v : Value} {x : V} (h : RepV R w v x) : RepV R' w' v x := by
  induction h with
  | t h => exact .t (h.mono ha.S ha.hS)
  | ow k sz off len g tot A cap hμ hl hc hA => exact .ow k sz off len g tot A cap (ha.μ _ _ hμ) hl hc hA
  | owv k sz hμ => exact .owv k sz (ha.μ _ _ hμ)
  | nl => exact .nl
  | pt k sz i j g n hμ => exact .pt k sz i j g n (ha.μ _ _ hμ)
  | pr g o cs f hB hcell hrep =>
    refine .pr g o cs f (fun h => (hB h).imp (ha.S g) (ha.B g)) (fun j t ht => ?_) (fun j t ht => (hrep j t ht).mono ha.S ha.hS)
    have hne : cs ≠ [] := by
      intro e
      subst e
      simp at ht
    have hb : w'.heap[g]? = w.heap[g]? := (hB hne).elim (ha.hS g) (ha.hB g)
    rw [World.cell?_of_block (w := w) hb]
    exact hcell j t ht
  | ag arr cs hn h1 h ih => exact .ag arr cs hn h1 ih
  | tu arr vs hn h ih => exact .tu arr vs hn ih
  | fn f arr caps hn h ih => exact .fn f arr caps hn ih
  | ud => exact .ud
  | un v => exact .un v
  | nn A c => exact .nn A c
  | nz c => exact .nz c

theorem Grow.agree {R w hp R' w' hp' ck dn} (h : Grow R w hp R' w' hp') (hi : HInv R w hp ck dn) : Agree R w R' w' :=
  ⟨h.S, fun g hg => by rw [h.B]; exact hg, h.μ, fun g hg => h.keep g (hi.sS g hg) (fun ho => (hi.own g ho).1 hg), fun g hg => h.keep g (hi.sB g hg) (fun ho => (hi.own g ho).2 hg)⟩

/-! ### lists -/
theorem over_length {α : Type} : ∀ (vs c : List α) (j : Nat), (over c j vs).length = c.length
  | [], c, j => rfl
  | x :: r, c, j => by unfold over; rw [over_length r]; simp
theorem over_get {α : Type} : ∀ (vs c : List α) (j i : Nat), j + vs.length ≤ c.length → (over c j vs)[i]? = if j ≤ i ∧ i < j + vs.length then vs[i - j]? else c[i]?
  | [], c, j, i, _ => by
    unfold over
    rw [if_neg (by simp)]
  | x :: r, c, j, i, h => by
    unfold over
    simp only [List.length_cons] at h
    rw [over_get r (c.set j x) (j + 1) i (by simp; omega)]
    simp only [List.length_cons]
    by_cases h1 : j + 1 ≤ i ∧ i < j + 1 + r.length
    · rw [if_pos h1, if_pos (by omega)]
      rw [show i - j = (i - (j + 1)) + 1 by omega, List.getElem?_cons_succ]
    · rw [if_neg h1]
      by_cases h2 : i = j
      · subst h2
        rw [if_pos (by omega), List.getElem?_set, if_pos rfl, if_pos (by omega)]
        simp
      · rw [if_neg (by omega), List.getElem?_set, if_neg (by omega)]

/-! ### the heap's list -/
def HP.keys (h : HP) : List Key := h.map Prod.fst
theorem HP.get_none {h : HP} {k : Key} (hk : k ∉ h.keys) : h.get k = none := by
  induction h with
  | nil => rfl
  | cons p r ih =>
    obtain ⟨k', o'⟩ := p
    simp only [HP.keys, List.map_cons, List.mem_cons, not_or] at hk
    simp only [HP.get]
    rw [if_neg (Ne.symm hk.1)]
    exact ih hk.2
theorem HP.mem_of_get {h : HP} {k : Key} {o : Ob} (hk : h.get k = some o) : k ∈ h.keys := by
  apply Classical.byContradiction
  intro hn
  rw [HP.get_none hn] at hk
  cases hk
theorem HP.get_cons (h : HP) (k k' : Key) (o : Ob) : HP.get ((k', o) :: h) k = if k' = k then some o else h.get k := rfl
theorem HP.get_put {h : HP} (nd : h.keys.Nodup) {k k2 : Key} {o : Ob} (hk : k ∈ h.keys) (hf : k2 = k ∨ k2 ∉ h.keys) (q : Key) : (h.put k k2 o).get q = if q = k2 then some o else if q = k then none else h.get q := by
  induction h with
  | nil => simp [HP.keys] at hk
  | cons p r ih =>
    obtain ⟨k', o'⟩ := p
    simp only [HP.keys, List.map_cons, List.mem_cons, not_or, List.nodup_cons] at nd hk hf
    simp only [HP.put]
    by_cases e : k' = k
    · subst e
      rw [if_pos rfl]
      simp only [HP.get]
      by_cases e2 : k2 = q
      · subst e2; simp
      · rw [if_neg e2, if_neg (Ne.symm e2)]
        by_cases e3 : q = k'
        · subst e3
          rw [if_pos rfl]
          exact HP.get_none nd.1
        · rw [if_neg e3, if_neg (Ne.symm e3)]
    · rw [if_neg e]
      simp only [HP.get]
      have hkr : k ∈ HP.keys r := hk.resolve_left (Ne.symm e)
      rw [ih nd.2 hkr (hf.imp id fun h => h.2)]
      by_cases e2 : k' = q
      · subst e2
        rw [if_pos rfl]
        have : k' ≠ k2 := by
          intro e3
          subst e3
          rcases hf with h | h
          · exact e h
          · exact h.1 rfl
        rw [if_neg this, if_neg e, if_pos rfl]
      · rw [if_neg e2]
        by_cases e3 : q = k2
        · rw [if_pos e3, if_pos e3]
        · rw [if_neg e3, if_neg e3, if_neg e2]
theorem HP.keys_put (h : HP) (k k2 : Key) (o : Ob) (q : Key) (hq : q ∈ (h.put k k2 o).keys) : q = k2 ∨ q ∈ h.keys := by
  induction h with
  | nil => simp [HP.put, HP.keys] at hq
  | cons p r ih =>
    obtain ⟨k', o'⟩ := p
    simp only [HP.put] at hq
    by_cases e : k' = k
    · rw [if_pos e] at hq
      simp only [HP.keys, List.map_cons, List.mem_cons] at hq ⊢
      rcases hq with h | h
      · exact .inl h
      · exact .inr (.inr h)
    · rw [if_neg e] at hq
      simp only [HP.keys, List.map_cons, List.mem_cons] at hq ⊢
      rcases hq with h | h
      · exact .inr (.inl h)
      · exact (ih h).imp id .inr
theorem HP.nodup_put {h : HP} (nd : h.keys.Nodup) {k k2 : Key} {o : Ob} (hk : k ∈ h.keys) (hf : k2 = k ∨ k2 ∉ h.keys) : (h.put k k2 o).keys.Nodup := by
  induction h with
  | nil => simp [HP.keys] at hk
  | cons p r ih =>
    obtain ⟨k', o'⟩ := p
    simp only [HP.keys, List.map_cons, List.mem_cons, not_or, List.nodup_cons] at nd hk hf
    simp only [HP.put]
    by_cases e : k' = k
    · subst e
      rw [if_pos rfl]
      simp only [HP.keys, List.map_cons, List.nodup_cons]
      refine ⟨?_, nd.2⟩
      rcases hf with h | h
      · rw [h]; exact nd.1
      · exact h.2
    · rw [if_neg e]
      simp only [HP.keys, List.map_cons, List.nodup_cons]
      have hkr : k ∈ HP.keys r := hk.resolve_left (Ne.symm e)
      refine ⟨fun hm => ?_, ih nd.2 hkr (hf.imp id fun h => h.2)⟩
      rcases HP.keys_put r k k2 o k' hm with h | h
      · subst h
        rcases hf with h | h
        · exact e h
        · exact h.1 rfl
      · exact nd.1 h
theorem HP.get_filter (h : HP) (p : Key → Bool) (k : Key) : HP.get (h.filter fun x => p x.1) k = if p k = true then h.get k else none := by
  induction h with
  | nil => simp [HP.get]
  | cons x r ih =>
    obtain ⟨k', o'⟩ := x
    simp only [List.filter_cons]
    by_cases hp : p k' = true
    · rw [if_pos hp]
      simp only [HP.get]
      by_cases e : k' = k
      · subst e
        rw [if_pos rfl, if_pos hp, if_pos rfl]
      · rw [if_neg e, if_neg e]
        exact ih
    · rw [if_neg hp, ih]
      simp only [HP.get]
      by_cases e : k' = k
      · subst e
        rw [if_neg hp, if_neg hp]
      · rw [if_neg e]
theorem HP.keys_filter (h : HP) (p : Key → Bool) (k : Key) (hk : k ∈ HP.keys (h.filter fun x => p x.1)) : k ∈ h.keys := by
  simp only [HP.keys, List.mem_map, List.mem_filter] at hk ⊢
  obtain ⟨x, hx, rfl⟩ := hk
  exact ⟨x, hx.1, rfl⟩
theorem HP.nodup_filter {h : HP} (nd : h.keys.Nodup) (p : Key → Bool) : (HP.keys (h.filter fun x => p x.1)).Nodup := by
  unfold HP.keys at *
  exact nd.sublist (List.Sublist.map _ List.filter_sublist)

/-! ### the frame's list -/
theorem Env.get_put (e : Env) (t : Nat) (v : V) (q : Nat) : (e.put t v).get q = if q = t then v else e.get q := by
  simp only [Env.put, Env.get]
  by_cases h : t = q
  · rw [if_pos h, if_pos h.symm]
  · rw [if_neg h, if_neg (Ne.symm h)]
theorem Env.get_keep (ts : List Nat) (e : Env) (q : Nat) : (Env.keep ts e).get q = if ts.contains q then e.get q else .un := by
  unfold Env.keep
  induction ts with
  | nil => simp [Env.get]
  | cons t r ih =>
    simp only [List.map_cons, Env.get]
    by_cases h : t = q
    · subst h
      simp
    · rw [if_neg h, ih]
      have : (q == t) = false := by simpa using fun e => h e.symm
      simp only [List.contains_cons, this, Bool.false_or]
end Go.Pev
