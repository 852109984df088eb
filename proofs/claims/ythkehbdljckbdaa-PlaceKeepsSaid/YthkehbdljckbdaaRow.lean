/- From a law's arguments, as the statement reads them, to the pure evaluator's trees; and back. -/
import Derived.Test.YthkehbdljckbdaaSound
import Derived.WalkKit
import Derived.ProofKit
import Derived.OpenShut
import Derived.ShutString
import Derived.ChangeOld
import Derived.Below
import Derived.SizedLaws
set_option linter.unusedVariables false
set_option linter.unusedSimpArgs false
namespace Go.Pev
open Go Go.RowKit Go.WideShapes

def tilesB (P : Program) : List Field → Nat → Nat → Bool
  | [], off, tot => off == tot
  | f :: fs, off, tot => f.offset == off && tilesB P fs (off + P.cellsOf f.type) tot

def plainTy (P : Program) : Nat → TypeId → Bool
  | 0, _ => false
  | n + 1, t => match P.underlying t with
    | some .bool => true
    | some (.int _) => true
    | some .string => true
    | some (.slice e) => decide (0 < P.cellsOf e) && plainTy P n e
    | some (.struct fs) => tilesB P fs.toList 0 (P.cellsOf t) && fs.toList.all fun f => plainTy P n f.type
    | some (.array k e) => P.cellsOf t == k * P.cellsOf e && plainTy P n e
    | _ => false

def FitsF (F : TypeId → List T → Prop) (P : Program) : List Field → List T → Prop
  | [], ts => ts = []
  | f :: fs, ts => ∃ a b, ts = a ++ b ∧ a.length = P.cellsOf f.type ∧ F f.type a ∧ FitsF F P fs b

/-- Cells of a type. -/
def Fits (P : Program) : Nat → TypeId → List T → Prop
  | 0, _, _ => False
  | n + 1, t, ts => match P.underlying t with
    | some .bool => ∃ b, ts = [.b b]
    | some (.int k) => ∃ m, ts = [.i k m] ∧ (Lit.int k m).wf = true
    | some .string => ∃ s, ts = [.s s] ∧ s.length ≤ reachBytes
    | some (.slice e) => ∃ xs, ts = [.l xs] ∧ xs.length * P.bytesOf e ≤ reachBytes ∧ ∀ c ∈ xs, c.length = P.cellsOf e ∧ Fits P n e c
    | some (.struct fs) => FitsF (Fits P n) P fs.toList ts
    | some (.array k e) => ts.length = k * P.cellsOf e ∧ ∀ i, i < k → Fits P n e ((ts.drop (i * P.cellsOf e)).take (P.cellsOf e))
    | _ => False

section
variable {H : Type} {enc : TypeId × Value → H} {P : Program} {w : World} {spare : Nat → Bool} {held : Bool}

abbrev old (w : World) : Nat → Prop := fun g => g < w.heap.size

theorem weightsAll_mem {e : TypeId} : ∀ {ds : List (DataW H)} {j : Nat} {d : DataW H}, ds[j]? = some d → ∀ n ∈ d.weights P e, n ∈ DataW.weightsAll P e ds
  | d0 :: ds, 0, d, hd, n, hn => by
    simp only [List.getElem?_cons_zero, Option.some.injEq] at hd
    subst hd
    simp only [DataW.weightsAll, List.mem_append]
    exact .inl hn
  | d0 :: ds, j + 1, d, hd, n, hn => by
    simp only [List.getElem?_cons_succ] at hd
    simp only [DataW.weightsAll, List.mem_append]
    exact .inr (weightsAll_mem hd n hn)
  | [], j, d, hd, n, hn => by simp at hd

def Got (P : Program) (w : World) (k : Nat) (t : TypeId) (cs : List Value) (ts : List T) : Prop := ts.length = cs.length ∧ (∀ j x, ts[j]? = some x → RepT (old w) w (cs.getD j undef) x) ∧ Fits P k t ts

theorem cells_get {base : Nat} {a : Addr} {n : Nat} {cs : List Value} (h : w.cells? base a n = some cs) : cs.length = n ∧ ∀ i, i < n → w.cell? (a.add i) = some (cs.getD i undef) := by
  unfold World.cells? at h
  split at h
  · have hl : cs.length = n := by simpa using mapM_some_length h
    refine ⟨hl, fun i hi => ?_⟩
    have := mapM_some_get h i i (by simp [hi])
    rw [this, List.getD_eq_getElem?_getD, List.getElem?_eq_getElem (by omega)]
    rfl
  · cases h

theorem drop_take_getD (cs : List Value) (off c j : Nat) (hj : j < c) (h : off + c ≤ cs.length) : ((cs.drop off).take c).getD j undef = cs.getD (off + j) undef := by
  rw [List.getD_eq_getElem?_getD, List.getD_eq_getElem?_getD, List.getElem?_take, if_pos hj, List.getElem?_drop]

theorem fields_rep {k fuel : Nat} {cs : List Value} {tot : Nat} (hl : cs.length = tot) (ih : ∀ t cs x, DataW.trod enc P w 0 spare held fuel t cs = some x → plainTy P k t = true → (∀ m ∈ x.1.weights P t, m ≤ reachBytes) → ∃ ts, Got P w k t cs ts) :
    ∀ (fs : List Field) (off : Nat), tilesB P fs off tot = true → (fs.all fun f => plainTy P k f.type) = true → (∀ (i : Nat) (f : Field), fs[i]? = some f → ∃ y, DataW.trod enc P w 0 spare held fuel f.type ((cs.drop f.offset).take (P.cellsOf f.type)) = some y ∧ ∀ m ∈ y.1.weights P f.type, m ≤ reachBytes) → off ≤ tot →
      ∃ ts : List T, off + ts.length = tot ∧ (∀ j x, ts[j]? = some x → RepT (old w) w (cs.getD (off + j) undef) x) ∧ FitsF (Fits P k) P fs ts
  | [], off, ht, _, _, ho => by
    have : off = tot := by simpa [tilesB] using ht
    exact ⟨[], by simpa using this, by simp, rfl⟩
  | f :: fs, off, ht, hp, hy, ho => by
    simp only [tilesB, Bool.and_eq_true, beq_iff_eq] at ht
    obtain ⟨hof, ht⟩ := ht
    simp only [List.all_cons, Bool.and_eq_true] at hp
    obtain ⟨y, h1, h2⟩ := hy 0 f rfl
    obtain ⟨a, a1, a2, a3⟩ := ih _ _ _ h1 hp.1 h2
    have htot : ∀ (fs : List Field) (off : Nat), tilesB P fs off tot = true → off ≤ tot := by
      intro fs
      induction fs with
      | nil => intro off h; simp only [tilesB, beq_iff_eq] at h; omega
      | cons f fs ihf =>
        intro off h
        simp only [tilesB, Bool.and_eq_true] at h
        have := ihf _ h.2
        omega
    have hle := htot fs _ ht
    obtain ⟨b, b1, b2, b3⟩ := fields_rep hl ih fs (off + P.cellsOf f.type) ht hp.2 (fun i g hg => hy (i + 1) g (by simpa using hg)) hle
    have hal : a.length = P.cellsOf f.type := by rw [a1, hof]; simp; omega
    refine ⟨a ++ b, by simp; omega, fun j x hx => ?_, a, b, rfl, hal, a3, b3⟩
    rw [List.getElem?_append] at hx
    by_cases hj : j < a.length
    · rw [if_pos hj] at hx
      have := a2 j x hx
      rwa [hof, drop_take_getD _ _ _ _ (by omega) (by omega)] at this
    · rw [if_neg hj] at hx
      have := b2 _ x hx
      rwa [show off + P.cellsOf f.type + (j - a.length) = off + j by omega] at this

theorem array_rep {k fuel n : Nat} {e : TypeId} {cs : List Value} (hl : cs.length = n * P.cellsOf e) (ih : ∀ t cs x, DataW.trod enc P w 0 spare held fuel t cs = some x → plainTy P k t = true → (∀ m ∈ x.1.weights P t, m ≤ reachBytes) → ∃ ts, Got P w k t cs ts) (hp : plainTy P k e = true)
    (hy : ∀ i, i < n → ∃ y, DataW.trod enc P w 0 spare held fuel e ((cs.drop (i * P.cellsOf e)).take (P.cellsOf e)) = some y ∧ ∀ m ∈ y.1.weights P e, m ≤ reachBytes) :
    ∀ m, m ≤ n → ∃ ts : List T, ts.length = m * P.cellsOf e ∧ (∀ j x, ts[j]? = some x → RepT (old w) w (cs.getD j undef) x) ∧ ∀ i, i < m → Fits P k e ((ts.drop (i * P.cellsOf e)).take (P.cellsOf e))
  | 0, _ => ⟨[], by simp, by simp, by intro i hi; omega⟩
  | m + 1, hm => by
    obtain ⟨ts, t1, t2, t3⟩ := array_rep hl ih hp hy m (by omega)
    obtain ⟨y, h1, h2⟩ := hy m (by omega)
    obtain ⟨a, a1, a2, a3⟩ := ih _ _ _ h1 hp h2
    have hle : (m + 1) * P.cellsOf e ≤ n * P.cellsOf e := Nat.mul_le_mul_right _ hm
    rw [Nat.add_mul, Nat.one_mul] at hle
    have hal : a.length = P.cellsOf e := by rw [a1]; simp; omega
    refine ⟨ts ++ a, by simp [t1, hal, Nat.add_mul], fun j x hx => ?_, fun i hi => ?_⟩
    · rw [List.getElem?_append] at hx
      by_cases hj : j < ts.length
      · rw [if_pos hj] at hx; exact t2 j x hx
      · rw [if_neg hj] at hx
        have := a2 _ x hx
        have hlt := (List.getElem?_eq_some_iff.1 hx).1
        rwa [drop_take_getD _ _ _ _ (by omega) (by omega), show m * P.cellsOf e + (j - ts.length) = j by omega] at this
    · by_cases him : i < m
      · have hle2 : (i + 1) * P.cellsOf e ≤ m * P.cellsOf e := Nat.mul_le_mul_right _ him
        rw [Nat.add_mul, Nat.one_mul] at hle2
        rw [List.drop_append_of_le_length (by omega), List.take_append_of_le_length (by simp; omega)]
        exact t3 i him
      · obtain rfl : i = m := by omega
        rw [← t1, List.drop_left, List.take_of_length_le (by omega)]
        exact a3

theorem trod_rep : ∀ (fuel k : Nat) (t : TypeId) (cs : List Value) (x : DataW H × List MemPlace), DataW.trod enc P w 0 spare held fuel t cs = some x → plainTy P k t = true → (∀ m ∈ x.1.weights P t, m ≤ reachBytes) → ∃ ts, Got P w k t cs ts
  | 0, k, t, cs, x, h, _, _ => by simp [DataW.trod] at h
  | fuel + 1, 0, t, cs, x, h, hp, _ => by simp [plainTy] at hp
  | fuel + 1, k + 1, t, cs, x, h, hp, hw => by
    have ih : ∀ t cs x, DataW.trod enc P w 0 spare held fuel t cs = some x → plainTy P k t = true → (∀ m ∈ x.1.weights P t, m ≤ reachBytes) → ∃ ts, Got P w k t cs ts := fun t cs x => trod_rep fuel k t cs x
    simp only [plainTy] at hp
    split at hp
    · rename_i ht
      obtain ⟨b, rfl, rfl⟩ := DataW.trod_bool ht h
      exact ⟨[.b b], rfl, fun j x hx => by cases j <;> simp at hx; subst hx; exact .b b, by simp only [Fits, ht]; exact ⟨b, rfl⟩⟩
    · rename_i kd ht
      obtain ⟨n, rfl, rfl, hwf⟩ := DataW.trod_int ht h
      exact ⟨[.i kd n], rfl, fun j x hx => by cases j <;> simp at hx; subst hx; exact .i kd n, by simp only [Fits, ht]; exact ⟨n, rfl, hwf⟩⟩
    · rename_i ht
      obtain ⟨s, rfl, rfl, hs⟩ := DataW.trod_string ht h
      refine ⟨[.s s.data.toList], rfl, fun j x hx => by cases j <;> simp at hx; subst hx; exact .s s _ rfl, ?_⟩
      simp only [Fits, ht]
      exact ⟨_, rfl, hw _ (by simp [DataW.weights])⟩
    · rename_i e ht
      rw [Bool.and_eq_true] at hp
      have hc0 : 0 < P.cellsOf e := by simpa using hp.1
      rcases DataW.trod_slice ht h with ⟨rfl, rfl⟩ | ⟨a, len, cap, elems, rest, n, hf, rfl, rfl, hb, hle, hm, hlen, hel, _, _⟩
      · refine ⟨[.l []], rfl, fun j x hx => by cases j <;> simp at hx; subst hx; exact repT_nil _ _, ?_⟩
        simp only [Fits, ht]
        exact ⟨[], rfl, by simp, by simp⟩
      · obtain rfl : fuel = n := by omega
        have hwt : ∀ m ∈ (elems.length + rest.length) * P.bytesOf e :: (DataW.weightsAll P e (elems.map (·.1)) ++ DataW.weightsAll P e (rest.map (·.1))), m ≤ reachBytes := by
          intro m hm'
          refine hw m ?_
          simp only [DataW.weights, ht, List.length_map]
          exact hm'
        have hgot : ∀ i, ∃ c : List T, i < len → ∃ ci : List Value, ci.length = P.cellsOf e ∧ (∀ j, j < P.cellsOf e → w.cell? ((a.add (i * P.cellsOf e)).add j) = some (ci.getD j undef)) ∧ Got P w k e ci c := by
          intro i
          by_cases hi : i < len
          · have h1 := hel i hi
            rw [List.getElem?_eq_getElem (by omega), Option.bind_eq_some_iff] at h1
            obtain ⟨ci, hci, htr⟩ := h1
            obtain ⟨c1, c2⟩ := cells_get hci
            obtain ⟨ts, hts⟩ := ih e ci _ htr hp.2 (fun m hm' => hwt m (by
              refine List.mem_cons_of_mem _ (List.mem_append.2 (.inl ?_))
              exact weightsAll_mem (j := i) (by rw [List.getElem?_map, List.getElem?_eq_getElem (by omega)]; rfl) m hm'))
            exact ⟨ts, fun _ => ⟨ci, c1, c2, hts⟩⟩
          · exact ⟨[], fun h => absurd h hi⟩
        have hch : ∃ g : Nat → List T, ∀ i, i < len → ∃ ci : List Value, ci.length = P.cellsOf e ∧ (∀ j, j < P.cellsOf e → w.cell? ((a.add (i * P.cellsOf e)).add j) = some (ci.getD j undef)) ∧ Got P w k e ci (g i) :=
          ⟨fun i => Classical.choose (hgot i), fun i => Classical.choose_spec (hgot i)⟩
        obtain ⟨g, hg⟩ := hch
        have hxs : ∀ c ∈ (List.range len).map g, c.length = P.cellsOf e ∧ Fits P k e c := by
          intro c hc
          obtain ⟨i, hi, rfl⟩ := List.mem_map.1 hc
          obtain ⟨ci, c1, c2, g1, g2, g3⟩ := hg i (by simpa using hi)
          exact ⟨by omega, g3⟩
        have haddr : 0 < len → ∃ q o, a = ⟨q, o, none⟩ ∧ q < w.heap.size := by
          intro h0
          obtain ⟨ci, c1, c2, _⟩ := hg 0 h0
          have := c2 0 hc0
          rw [Nat.zero_mul] at this
          have e0 : (a.add 0).add 0 = a := by simp [Addr.add]
          rw [e0] at this
          unfold World.cell? at this
          obtain ⟨q, o, sp⟩ := a
          simp only at this
          cases hq : w.heap[q]? with
          | none => simp [hq] at this
          | some ob =>
            have hlt := (Array.getElem?_eq_some_iff.1 hq).1
            rw [hq] at this
            cases ob <;> simp at this
            cases sp with
            | none => exact ⟨q, o, rfl, hlt⟩
            | some z => simp at this
        have hat : ∀ i j x, at2 ((List.range len).map g) i j = some x → i < len ∧ (g i)[j]? = some x := by
          intro i j x hx
          obtain ⟨c, h1, h2⟩ := at2_elim hx
          rw [List.getElem?_map] at h1
          by_cases hi : i < len
          · rw [List.getElem?_range hi] at h1
            cases h1
            exact ⟨hi, h2⟩
          · rw [List.getElem?_eq_none (by simp; omega)] at h1
            cases h1
        refine ⟨[.l ((List.range len).map g)], rfl, fun j x hx => ?_, ?_⟩
        · cases j <;> simp at hx
          subst hx
          simp only [List.getD_cons_zero]
          refine .l (some a) len cap _ (P.cellsOf e) a.block a.off (fun i j => w.cell? ⟨a.block, a.off + (i * P.cellsOf e + j), none⟩ |>.getD undef) (by simp) hle (fun h0 => ?_) (fun h0 => ?_) (fun c hc => (hxs c hc).1) (fun i j x hx => ?_) (fun i j x hx => ?_)
          · obtain ⟨q, o, rfl, _⟩ := haddr h0
            rfl
          · obtain ⟨q, o, rfl, hlt⟩ := haddr h0
            exact hlt
          · obtain ⟨hi, hx⟩ := hat i j x hx
            obtain ⟨ci, c1, c2, g1, g2, g3⟩ := hg i hi
            have hj : j < P.cellsOf e := by have := (List.getElem?_eq_some_iff.1 hx).1; omega
            obtain ⟨q, o, rfl, _⟩ := haddr (by omega)
            have := c2 j hj
            rw [addr_add, addr_add, Nat.add_assoc] at this
            rw [this]; rfl
          · obtain ⟨hi, hx⟩ := hat i j x hx
            obtain ⟨ci, c1, c2, g1, g2, g3⟩ := hg i hi
            have hj : j < P.cellsOf e := by have := (List.getElem?_eq_some_iff.1 hx).1; omega
            obtain ⟨q, o, rfl, _⟩ := haddr (by omega)
            have := c2 j hj
            rw [addr_add, addr_add, Nat.add_assoc] at this
            simp only
            rw [this]
            exact g2 j x hx
        · simp only [Fits, ht]
          refine ⟨_, rfl, ?_, hxs⟩
          have h1 := hwt _ List.mem_cons_self
          have : ((List.range len).map g).length * P.bytesOf e ≤ (elems.length + rest.length) * P.bytesOf e := Nat.mul_le_mul_right _ (by simp; omega)
          omega
    · rename_i fs ht
      rw [Bool.and_eq_true] at hp
      obtain ⟨xs, n, hf, rfl, hl, hxl, hx⟩ := DataW.trod_struct ht h
      obtain rfl : fuel = n := by omega
      obtain ⟨ts, t1, t2, t3⟩ := fields_rep (enc := enc) (spare := spare) (held := held) (fuel := fuel) (k := k) hl ih fs.toList 0 hp.1 hp.2 (fun i f hf => by
        have hf' : fs[i]? = some f := by simpa using hf
        have hi : i < xs.length := by rw [hxl]; exact (Array.getElem?_eq_some_iff.1 hf').1
        refine ⟨xs[i], by rw [hx i f hf', List.getElem?_eq_getElem hi], fun m hm => hw m ?_⟩
        simp only [DataW.weights, ht]
        exact DataW.weights_mem_each (j := i) (by rw [List.getElem?_map, hf]; rfl) (by rw [List.getElem?_map, List.getElem?_eq_getElem hi]; rfl) m hm) (Nat.zero_le _)
      refine ⟨ts, by omega, fun j x hx => by have := t2 j x hx; rwa [Nat.zero_add] at this, ?_⟩
      simp only [Fits, ht]
      exact t3
    · rename_i n e ht
      rw [Bool.and_eq_true] at hp
      obtain ⟨xs, m, hf, rfl, hl, hxl, hx⟩ := DataW.trod_array ht h
      obtain rfl : fuel = m := by omega
      have hce : P.cellsOf t = n * P.cellsOf e := by simpa using hp.1
      obtain ⟨ts, t1, t2, t3⟩ := array_rep (enc := enc) (spare := spare) (held := held) (fuel := fuel) (k := k) (n := n) (e := e) (cs := cs) (by omega) ih hp.2 (fun i hi => by
        refine ⟨xs[i]'(by omega), by rw [hx i hi, List.getElem?_eq_getElem (by omega)], fun m hm => hw m ?_⟩
        simp only [DataW.weights, ht]
        exact weightsAll_mem (j := i) (by rw [List.getElem?_map, List.getElem?_eq_getElem (by omega)]; rfl) m hm) n (Nat.le_refl _)
      refine ⟨ts, by omega, t2, ?_⟩
      simp only [Fits, ht]
      exact ⟨t1, t3⟩
    · cases hp

/-- An argument, as a value of the frame. -/
def ArgFit (P : Program) (k : Nat) (t : TypeId) (x : V) : Prop :=
  match P.underlying t with
  | some (.struct _) | some (.array _ _) => ∃ ts, x = .ag (ts.map .t) ∧ Fits P k t ts
  | _ => ∃ y, x = .t y ∧ Fits P k t [y]
def ArgsFit (P : Program) (k : Nat) : List TypeId → List V → Prop
  | [], xs => xs = []
  | t :: ts, xs => ∃ x ys, xs = x :: ys ∧ ArgFit P k t x ∧ ArgsFit P k ts ys

def argR (w : World) : Rl := ⟨old w, fun _ => False, fun _ => none⟩

theorem argR_inv (w : World) : HInv (argR w) w [] 0 dn0 := by
  constructor
  · intro k o h; cases h
  · intro k1 k2 o1 o2 g n1 n2 h; cases h
  · rintro g ⟨k, o, n, h, _⟩; cases h
  · exact fun g h => h
  · exact fun g h => h.elim
  · intro k p h; cases h
  · exact List.nodup_nil

theorem arg_rep {k base : Nat} {r : Reach} {t : TypeId} {v : Value} {d : DataW H} {ps : List MemPlace} (h : DataW.Trod enc P w 0 spare held t v d ps) (hp : plainTy P k t = true) (hok : Value.okWide P w r base t v) (hw : ∀ m ∈ d.weights P t, m ≤ reachBytes) : ∃ x, RepV (argR w) w v x ∧ ArgFit P k t x := by
  obtain ⟨fuel, hf⟩ := h
  obtain ⟨ts, t1, t2, t3⟩ := trod_rep fuel k t _ _ hf hp hw
  have hagg : (∃ cs, v = .agg cs) → ∃ x, RepV (argR w) w v x ∧ x = .ag (ts.map .t) := by
    rintro ⟨cs, rfl⟩
    have hcs : (Value.agg cs).cells.toList = cs.toList := rfl
    rw [hcs] at t1 t2
    refine ⟨_, .ag cs _ (by simp [t1]) (fun j hj => ?_) (fun j x hx => ?_), rfl⟩
    · have hj' : j < ts.length := by rw [t1]; simpa using hj
      have := t2 j _ (List.getElem?_eq_getElem hj')
      rw [arr_getD] at this
      exact oneCell_repT this
    · rw [List.getElem?_map] at hx
      cases hj : ts[j]? with
      | none => simp [hj] at hx
      | some y =>
        simp [hj] at hx
        subst hx
        have := t2 j y hj
        rw [arr_getD] at this
        exact .t this
  have hone : (∀ cs, v ≠ .agg cs) → ts.length = 1 → v.cells = #[v] → ∃ x, RepV (argR w) w v x ∧ ∃ y, x = .t y ∧ Fits P k t [y] := by
    intro _ hl hc
    match ts, hl, t2, t3 with
    | [y], _, t2, t3 =>
      have := t2 0 y rfl
      rw [hc] at this
      exact ⟨.t y, .t this, y, rfl, t3⟩
  cases k with
  | zero => simp [plainTy] at hp
  | succ k =>
    have hf3 := t3
    cases hu : P.underlying t with
    | none => simp [plainTy, hu] at hp
    | some dsc =>
      simp only [plainTy, hu] at hp
      simp only [Fits, hu] at hf3
      cases dsc with
      | struct fs =>
        obtain ⟨cs, rfl, _⟩ := okWide_struct hu hok
        obtain ⟨x, h1, h2⟩ := hagg ⟨cs, rfl⟩
        exact ⟨x, h1, by unfold ArgFit; rw [hu]; exact ⟨ts, h2, t3⟩⟩
      | array n e =>
        have hok' := hok
        simp only [Value.okWide, hu] at hok'
        obtain ⟨cs, rfl, _⟩ := hok'
        obtain ⟨x, h1, h2⟩ := hagg ⟨cs, rfl⟩
        exact ⟨x, h1, by unfold ArgFit; rw [hu]; exact ⟨ts, h2, t3⟩⟩
      | bool =>
        obtain ⟨b, hb⟩ := hf3
        obtain ⟨z, rfl⟩ := okWide_bool hu hok
        obtain ⟨x, h1, h2⟩ := hone (by intro cs h; cases h) (by rw [hb]; rfl) rfl
        exact ⟨x, h1, by unfold ArgFit; rw [hu]; exact h2⟩
      | int kd =>
        obtain ⟨b, hb, _⟩ := hf3
        obtain ⟨z, rfl⟩ := okWide_int hu hok
        obtain ⟨x, h1, h2⟩ := hone (by intro cs h; cases h) (by rw [hb]; rfl) rfl
        exact ⟨x, h1, by unfold ArgFit; rw [hu]; exact h2⟩
      | string =>
        obtain ⟨b, hb, _⟩ := hf3
        obtain ⟨z, rfl⟩ := okWide_string hu hok
        obtain ⟨x, h1, h2⟩ := hone (by intro cs h; cases h) (by rw [hb]; rfl) rfl
        exact ⟨x, h1, by unfold ArgFit; rw [hu]; exact h2⟩
      | slice e =>
        obtain ⟨b, hb, _⟩ := hf3
        obtain ⟨z1, z2, z3, rfl⟩ := okWide_slice hu hok
        obtain ⟨x, h1, h2⟩ := hone (by intro cs h; cases h) (by rw [hb]; rfl) rfl
        exact ⟨x, h1, by unfold ArgFit; rw [hu]; exact h2⟩
      | _ => cases hp

theorem args_rep {k base : Nat} {r : Reach} : ∀ (ts : List TypeId) (vs : List Value) (ds : List (DataW H)) (ps : List MemPlace), DataW.TrodAll enc P w 0 spare held ts vs ds ps → (ts.all (plainTy P k)) = true → (∀ (j : Nat) t v, ts[j]? = some t → vs[j]? = some v → Value.okWide P w r base t v) → (∀ m ∈ DataW.weightsEach P ts ds, m ≤ reachBytes) →
    ∃ xs, xs.length = vs.length ∧ (∀ j x, xs[j]? = some x → RepV (argR w) w (vs.getD j undef) x) ∧ ArgsFit P k ts xs
  | [], vs, ds, ps, h, _, _, _ => by
    cases vs <;> cases ds <;> simp [DataW.TrodAll] at h
    exact ⟨[], rfl, by simp, rfl⟩
  | t :: ts, [], ds, ps, h, _, _, _ => by cases ds <;> simp [DataW.TrodAll] at h
  | t :: ts, v :: vs, [], ps, h, _, _, _ => by simp [DataW.TrodAll] at h
  | t :: ts, v :: vs, d :: ds, ps, h, hp, hok, hw => by
    obtain ⟨p, q, h1, h2, _⟩ := h
    simp only [List.all_cons, Bool.and_eq_true] at hp
    simp only [DataW.weightsEach, List.mem_append] at hw
    obtain ⟨x, x1, x2⟩ := arg_rep h1 hp.1 (hok 0 t v rfl rfl) (fun m hm => hw m (.inl hm))
    obtain ⟨xs, y1, y2, y3⟩ := args_rep ts vs ds q h2 hp.2 (fun j t v ht hv => hok (j + 1) t v (by simpa using ht) (by simpa using hv)) (fun m hm => hw m (.inr hm))
    refine ⟨x :: xs, by simp [y1], fun j z hz => ?_, x, xs, rfl, x2, y3⟩
    cases j with
    | zero => simp at hz; subst hz; simpa using x1
    | succ j => simpa using y2 j z (by simpa using hz)

theorem trodAll_lt {ts : List TypeId} {vs : List Value} {ds : List (DataW H)} {ps : List MemPlace} (hl : laidOutB P = true) : ∀ {ts : List TypeId} {vs : List Value} {ds : List (DataW H)} {ps : List MemPlace} {W W' : World}, DataW.TrodAll enc P W 0 (fun _ => true) true ts vs ds ps → (∀ t ∈ ts, P.readableRec t = true ∧ t < P.types.size) → Below W.heap.size W W' →
    ∃ ps', DataW.TrodAll enc P W' 0 (fun b => decide (b < W.heap.size)) true ts vs ds ps'
  | [], vs, ds, ps, W, W', h, _, _ => by
    cases vs <;> cases ds <;> simp [DataW.TrodAll] at h
    exact ⟨[], rfl⟩
  | t :: ts, [], ds, ps, W, W', h, _, _ => by cases ds <;> simp [DataW.TrodAll] at h
  | t :: ts, v :: vs, [], ps, W, W', h, _, _ => by simp [DataW.TrodAll] at h
  | t :: ts, v :: vs, d :: ds, ps, W, W', h, hr, hb => by
    obtain ⟨p, q, h1, h2, _⟩ := h
    obtain ⟨r1, r2⟩ := hr t List.mem_cons_self
    have hlt : ∀ x ∈ p, x.block < W.heap.size := by
      obtain ⟨m, hm⟩ := h1
      exact DataW.trod_lt m _ _ _ hm
    obtain ⟨q', hq⟩ := trodAll_lt (ts := ts) (vs := vs) (ds := ds) (ps := q) hl h2 (fun u hu => hr u (List.mem_cons_of_mem _ hu)) hb
    exact ⟨p ++ q', p, q', Below.trod hl r1 r2 h1 hb hlt, hq, rfl⟩

/-- A law's call: where the pure evaluator tells true, whatever the arguments. -/
theorem law_calls {C : Cfg} {f : FuncId} {k base : Nat} {r : Reach} (hC : CfgOk P C) (hl : laidOutB P = true) {ts : List TypeId} (hp : ts.all (plainTy P k) = true) (hr : ∀ t ∈ ts, P.readableRec t = true ∧ t < P.types.size) (hev : ∀ xs, ArgsFit P k ts xs → ∃ n h c, run C n f xs [] 0 = some (.t (.b true), h, c))
    {W : World} {args : Array Value} {ds : List (DataW H)} {ps : List MemPlace} (hA : DataW.TrodAll enc P W 0 (fun _ => true) true ts args.toList ds ps) (hval : ∀ (j : Nat) t v, ts[j]? = some t → args[j]? = some v → Value.okWide P W r base t v) (hsz : (DataW.weightsEach P ts ds).all (· ≤ reachBytes) = true) :
    Calls P f args W fun e W' => e = .returned (.bool true) ∧ Below W.heap.size W W' ∧ ∃ ps', DataW.TrodAll enc P W' 0 (fun b => decide (b < W.heap.size)) true ts args.toList ds ps' := by
  obtain ⟨xs, x1, x2, x3⟩ := args_rep (k := k) ts args.toList ds ps hA hp (fun j t v ht hv => hval j t v ht (by simpa using hv)) (fun m hm => by simpa using List.all_eq_true.1 hsz m hm)
  obtain ⟨n, h, c, hrun⟩ := hev xs x3
  obtain ⟨_, g2⟩ := (all_ok hC n).1 f xs [] 0 _ h c hrun (argR W) W args (argR_inv W) ⟨by simpa using x1.symm, fun j v hv => by have := x2 j v hv; rwa [arr_getD] at this⟩
  refine g2.mono ?_
  rintro e W' ⟨v, R', rfl, hv, hg, _⟩
  have hno : ∀ g, ¬ Own (argR W) [] g := by rintro g ⟨k, o, n, h, _⟩; cases h
  have hb : Below W.heap.size W W' := ⟨hg.os, hg.tape, hg.output, hg.size, fun g hgl => hg.keep g hgl (hno g)⟩
  exact ⟨by rw [repV_b hv], hb, trodAll_lt (ts := ts) (vs := args.toList) (ds := ds) (ps := ps) hl hA hr hb⟩
end
end Go.Pev
