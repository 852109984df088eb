/- The contracts of strings.Split, TrimSuffix, strconv.Atoi, Itoa, in the pure evaluator's words. -/
import Derived.Test.YtlfjlpleodlkmaaGreatDoorPrim3
import Derived.Test.YtlfjlpleodlkmaaGreatDoorPevB
import Derived.Lib.Split
import Derived.Lib.AtoiAll
import Derived.Lib.ItoaNum
import Derived.Lib.Strings
set_option linter.unusedVariables false
set_option linter.unusedSimpArgs false
namespace Go.Pev
open Go Go.RowKit

theorem us1 {R : Rl} {w : World} {us : Array Value} {x : V} (ha : ArgsRep R w us [x]) : us = #[us.getD 0 undef] := by
  have h1 : us.size = 1 := ha.1.symm ▸ rfl
  apply Array.ext
  · simp [h1]
  · intro i hi1 hi2
    obtain rfl : i = 0 := by omega
    simp [Array.getD, h1]
theorem us2 {R : Rl} {w : World} {us : Array Value} {x y : V} (ha : ArgsRep R w us [x, y]) : us = #[us.getD 0 undef, us.getD 1 undef] := by
  have h1 : us.size = 2 := ha.1.symm ▸ rfl
  apply Array.ext
  · simp [h1]
  · intro i hi1 hi2
    match i, hi1 with
    | 0, _ => simp [Array.getD, h1]
    | 1, _ => simp [Array.getD, h1]
    | i + 2, h => omega
theorem rep_str {S : Nat → Prop} {w : World} {u : Value} {s : List UInt8} (h : RepT S w u (.s s)) : ∃ x : ByteArray, u = .string x ∧ x.data.toList = s := by
  cases h with
  | s x _ h => exact ⟨x, rfl, h⟩
theorem rep_int {S : Nat → Prop} {w : World} {u : Value} {k : IntKind} {n : Int} (h : RepT S w u (.i k n)) : u = .int k n := by
  cases h; rfl
theorem ba_size (x : ByteArray) : x.size = x.data.toList.length := by rw [Array.length_toList]; rfl

def trimP (args : List V) (h : HP) (ck : Nat) : Option (V × HP × Nat) :=
  match args, h with
  | [.t (.s s), .t (.s p)], [] => if s.length ≤ 281474976710656 then some (.t (.s (Lib.trimSuffix s p)), [], ck + 1) else none
  | _, _ => none
def TrimSaid (P : Program) (f : FuncId) : Prop := ∀ (s p : ByteArray) (w : World), s.size ≤ 281474976710656 → Calls P f #[.string s, .string p] w fun e w' => e = .returned (.string ⟨(Lib.trimSuffix s.data.toList p.data.toList).toArray⟩) ∧ w' = w
theorem trim_ok {P : Program} {f : FuncId} (hS : TrimSaid P f) (hg : goodFn P f = true) : ∀ args h ck r h' ck', trimP args h ck = some (r, h', ck') → ∀ R w us, HInv R w h ck (fun _ => False) → ArgsRep R w us args → goodFn P f = true ∧ Calls P f us w (CPost R w h r h' ck' (fun _ => False)) := by
  intro args h ck r h' ck' hr R w us hi ha
  refine ⟨hg, ?_⟩
  unfold trimP at hr
  split at hr
  · split at hr
    · rename_i hc
      cases hr
      obtain ⟨x, e1, rfl⟩ := rep_str (repV_tl (ha.2 0 _ rfl))
      obtain ⟨y, e2, rfl⟩ := rep_str (repV_tl (ha.2 1 _ rfl))
      rw [us2 ha, e1, e2]
      refine (hS x y w (by rw [ba_size]; exact hc)).mono ?_
      rintro e w' ⟨rfl, rfl⟩
      exact ⟨_, R, rfl, .t (.s _ _ rfl), Grow.refl _ _ _, hi.ck _ (by omega) _⟩
    · cases hr
  · cases hr

def itoaP (args : List V) (h : HP) (ck : Nat) : Option (V × HP × Nat) :=
  match args, h with
  | [.t (.i .i64 n)], [] => if -9223372036854775808 ≤ n ∧ n ≤ 9223372036854775807 then some (.t (.s (Lib.itoa n)), [], ck + 1) else none
  | _, _ => none
def ItoaSaid (P : Program) (f : FuncId) : Prop := ∀ (n : Int) (w : World), globOk w → -9223372036854775808 ≤ n → n ≤ 9223372036854775807 → Calls P f #[.int .i64 n] w fun e w' => e = .returned (.string ⟨(Lib.itoa n).toArray⟩) ∧ Below w.heap.size w w'
theorem itoa_ok {P : Program} {f : FuncId} (hS : ItoaSaid P f) (hg : goodFn P f = true) : ∀ args h ck r h' ck', itoaP args h ck = some (r, h', ck') → ∀ R w us, HInv R w h ck (fun _ => False) → ArgsRep R w us args → goodFn P f = true ∧ Calls P f us w (CPost R w h r h' ck' (fun _ => False)) := by
  intro args h ck r h' ck' hr R w us hi ha
  refine ⟨hg, ?_⟩
  unfold itoaP at hr
  split at hr
  · split at hr
    · rename_i hc
      cases hr
      have e1 := rep_int (repV_tl (ha.2 0 _ rfl))
      rw [us1 ha, e1]
      refine (hS _ w hi.gl.2 hc.1 hc.2).mono ?_
      rintro e w' ⟨rfl, hb⟩
      obtain ⟨g1, g2⟩ := below_nil hi (ck' := ck + 1) (by omega) hb
      exact ⟨_, R, rfl, .t (.s _ _ rfl), g1, g2⟩
    · cases hr
  · cases hr

def atoiV (s : List UInt8) : V := match Lib.atoiAll s with
  | .ok v => .tu [.t (.i .i64 v), .t .ni]
  | .range => .tu [.t (.i .i64 (Lib.atoiSat s)), .t .er]
  | _ => .tu [.t (.i .i64 0), .t .er]
def atoiP (args : List V) (h : HP) (ck : Nat) : Option (V × HP × Nat) :=
  match args, h with
  | [.t (.s s)], [] => if s.length ≤ 281474976710656 then some (atoiV s, [], ck + 1) else none
  | _, _ => none
def AtoiSaid (P : Program) (f : FuncId) : Prop := ∀ (s : ByteArray) (w : World), globOk w → s.size ≤ 281474976710656 → Calls P f #[.string s] w fun e w' => Below w.heap.size w w' ∧ match Lib.atoiAll s.data.toList with
  | .ok v => e = .returned (.tuple #[.int .i64 v, .nilIface])
  | .range => ∃ t p, e = .returned (.tuple #[.int .i64 (Lib.atoiSat s.data.toList), .iface t p])
  | _ => ∃ t p, e = .returned (.tuple #[.int .i64 0, .iface t p])
theorem tu2_rep {R : Rl} {w : World} {a b : Value} {x y : V} (h1 : RepV R w a x) (h2 : RepV R w b y) : RepV R w (.tuple #[a, b]) (.tu [x, y]) := by
  refine .tu _ _ rfl fun j v hv => ?_
  match j, hv with
  | 0, hv => cases hv; exact h1
  | 1, hv => cases hv; exact h2
  | j + 2, hv => cases hv
theorem atoi_ok {P : Program} {f : FuncId} (hS : AtoiSaid P f) (hg : goodFn P f = true) : ∀ args h ck r h' ck', atoiP args h ck = some (r, h', ck') → ∀ R w us, HInv R w h ck (fun _ => False) → ArgsRep R w us args → goodFn P f = true ∧ Calls P f us w (CPost R w h r h' ck' (fun _ => False)) := by
  intro args h ck r h' ck' hr R w us hi ha
  refine ⟨hg, ?_⟩
  unfold atoiP at hr
  split at hr
  · split at hr
    · rename_i hc
      cases hr
      obtain ⟨x, e1, rfl⟩ := rep_str (repV_tl (ha.2 0 _ rfl))
      rw [us1 ha, e1]
      refine (hS x w hi.gl.2 (by rw [ba_size]; exact hc)).mono ?_
      rintro e w' ⟨hb, hm⟩
      obtain ⟨g1, g2⟩ := below_nil hi (ck' := ck + 1) (by omega) hb
      unfold atoiV
      cases hx : Lib.atoiAll x.data.toList
      case ok v =>
        rw [hx] at hm; simp only at hm; subst hm
        exact ⟨_, R, rfl, tu2_rep (.t (.i _ _)) (.t .ni), g1, g2⟩
      all_goals
        rw [hx] at hm; simp only at hm
        obtain ⟨t, p, rfl⟩ := hm
        exact ⟨_, R, rfl, tu2_rep (.t (.i _ _)) (.t (.er _ _)), g1, g2⟩
    · cases hr
  · cases hr

def splitP (args : List V) (h : HP) (ck : Nat) : Option (V × HP × Nat) :=
  match args, h with
  | [.t (.s s), .t (.s p)], [] => if s.length < 4294967281 ∧ 1 ≤ p.length then some (.t (.l ((Lib.split s p).map fun x => [.s x])), [], ck + 1) else none
  | _, _ => none
def SplitSaid (P : Program) (f : FuncId) : Prop := ∀ (s p : ByteArray) (w : World), globOk w → s.size < 4294967281 → 1 ≤ p.size → Calls P f #[.string s, .string p] w fun e w' => ∃ (xs : List ByteArray) (ty : TypeId), xs.map (fun x => x.data.toList) = Lib.split s.data.toList p.data.toList ∧
  e = .returned (.slice (some ⟨w.heap.size, 0, none⟩) xs.length xs.length) ∧ w' = w.alloc (.cells (xs.map Value.string).toArray ty)
theorem split_ok {P : Program} {f : FuncId} (hS : SplitSaid P f) (hg : goodFn P f = true) : ∀ args h ck r h' ck', splitP args h ck = some (r, h', ck') → ∀ R w us, HInv R w h ck (fun _ => False) → ArgsRep R w us args → goodFn P f = true ∧ Calls P f us w (CPost R w h r h' ck' (fun _ => False)) := by
  intro args h ck r h' ck' hr R w us hi ha
  refine ⟨hg, ?_⟩
  unfold splitP at hr
  split at hr
  · split at hr
    · rename_i hc
      cases hr
      obtain ⟨x, e1, rfl⟩ := rep_str (repV_tl (ha.2 0 _ rfl))
      obtain ⟨y, e2, rfl⟩ := rep_str (repV_tl (ha.2 1 _ rfl))
      rw [us2 ha, e1, e2]
      refine (hS x y w hi.gl.2 (by rw [ba_size]; exact hc.1) (by rw [ba_size]; exact hc.2)).mono ?_
      rintro e w' ⟨xs, ty, hxs, rfl, rfl⟩
      obtain ⟨g2, i2⟩ := newS_step (w' := w.alloc (.cells (xs.map Value.string).toArray ty)) hi (fun g => g = w.heap.size) rfl rfl rfl (by simp) (fun g hg => heap_alloc_old w _ hg) (by rintro g rfl; simp)
      refine ⟨_, _, rfl, ?_, g2, i2.ck _ (by omega) _⟩
      rw [← hxs, List.map_map]
      have hget : ∀ i, (hi : i < xs.length) → (w.alloc (.cells (xs.map Value.string).toArray ty)).cell? ⟨w.heap.size, i, none⟩ = some (.string xs[i]) := by
        intro i hi
        have := heap_alloc_new w (.cells (xs.map Value.string).toArray ty)
        simp only [World.cell?]
        rw [this]
        simp [hi]
      refine .t (.l _ _ _ _ 1 w.heap.size 0 (fun i j => .string (xs.getD i ByteArray.empty)) (by simp) (Nat.le_refl _) (fun _ => rfl) (fun _ => .inr rfl) (fun c hc => by
        obtain ⟨q, _, rfl⟩ := List.mem_map.1 hc; rfl) (fun i j t ht => ?_) (fun i j t ht => ?_))
      · obtain ⟨c, hc1, hc2⟩ := at2_elim ht
        rw [List.getElem?_map] at hc1
        cases hy : xs[i]? with
        | none => rw [hy] at hc1; cases hc1
        | some q =>
          rw [hy] at hc1
          cases hc1
          have hj := (List.getElem?_eq_some_iff.1 hc2).1
          obtain rfl : j = 0 := by simpa using hj
          have hil := (List.getElem?_eq_some_iff.1 hy).1
          rw [Nat.mul_one, Nat.add_zero, Nat.zero_add, hget i hil]
          simp [List.getD_eq_getElem?_getD, hil]
      · obtain ⟨c, hc1, hc2⟩ := at2_elim ht
        rw [List.getElem?_map] at hc1
        cases hy : xs[i]? with
        | none => rw [hy] at hc1; cases hc1
        | some q =>
          rw [hy] at hc1
          cases hc1
          have hj := (List.getElem?_eq_some_iff.1 hc2).1
          obtain rfl : j = 0 := by simpa using hj
          cases hc2
          have hil := (List.getElem?_eq_some_iff.1 hy).1
          simp only [List.getD_eq_getElem?_getD, hy]
          exact .s _ _ rfl
    · cases hr
  · cases hr
end Go.Pev
