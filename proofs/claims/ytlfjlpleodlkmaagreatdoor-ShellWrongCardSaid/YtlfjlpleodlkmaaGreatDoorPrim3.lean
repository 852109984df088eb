/- The contract of strings.Join, in the pure evaluator's words. -/
import Derived.Test.YtlfjlpleodlkmaaGreatDoorPevC
import Derived.Lib.Join
set_option linter.unusedVariables false
set_option linter.unusedSimpArgs false
namespace Go.Pev
open Go Go.RowKit

def strsOf : List (List T) → Option (List (List UInt8))
  | [] => some []
  | [.s y] :: r => (strsOf r).map (y :: ·)
  | _ => none
theorem strsOf_eq : ∀ {xs : List (List T)} {ys : List (List UInt8)}, strsOf xs = some ys → xs = ys.map fun y => [.s y]
  | [], ys, h => by cases h; rfl
  | [.s y] :: r, ys, h => by
    simp only [strsOf, Option.map_eq_some_iff] at h
    obtain ⟨zs, h1, rfl⟩ := h
    rw [strsOf_eq h1]; rfl
theorem strsOf_map : ∀ ys : List (List UInt8), strsOf (ys.map fun y => [.s y]) = some ys
  | [] => rfl
  | y :: r => by simp only [List.map_cons, strsOf, strsOf_map r, Option.map_some]

def joinP (args : List V) (h : HP) (ck : Nat) : Option (V × HP × Nat) :=
  match args, h with
  | [.t (.l xs), .t (.s sep)], [] => match strsOf xs with
    | some ys => if ys.length ≤ 140737488355328 ∧ (Lib.join ys sep).length ≤ 140737488355328 then some (.t (.s (Lib.join ys sep)), [], ck + 1) else none
    | none => none
  | _, _ => none

def JoinSaid (P : Program) (f : FuncId) : Prop :=
  (∀ (a : Option Addr) (c : Nat) (sep : ByteArray) (w : World), Calls P f #[.slice a 0 c, .string sep] w fun e w' => e = .returned (.string ⟨#[]⟩) ∧ w' = w) ∧
  (∀ (bk o c : Nat) (xs : List ByteArray) (sep : ByteArray) (w : World), (∀ (j : Nat) x, xs[j]? = some x → w.cell? ⟨bk, o + j, none⟩ = some (.string x)) → bk < w.heap.size → xs.length ≤ 140737488355328 → xs.length ≤ c →
    (Lib.join (xs.map (·.data.toList)) sep.data.toList).length ≤ 140737488355328 →
    Calls P f #[.slice (some ⟨bk, o, none⟩) xs.length c, .string sep] w fun e w' => e = .returned (.string ⟨(Lib.join (xs.map (·.data.toList)) sep.data.toList).toArray⟩) ∧ Below w.heap.size w w')

theorem below_nil {R : Rl} {w w' : World} {ck ck' : Nat} (hi : HInv R w [] ck (fun _ => False)) (hck : ck < ck') (hb : Below w.heap.size w w') : Grow R w [] R w' [] ∧ HInv R w' [] ck' (fun _ => False) := by
  have hown : ∀ g, ¬ Own R [] g := by rintro g ⟨k, o, n, h, _⟩; cases h
  refine ⟨⟨hb.os, hb.tape, hb.output, hb.size, fun g hg _ => hb.block g hg, fun _ h => h, rfl, fun _ _ h => h, fun _ h => .inl h, fun g h => absurd h (hown g)⟩, ?_⟩
  exact ⟨fun k o h => (by cases h), fun k1 k2 o1 o2 g n1 n2 h => (by cases h), fun g h => absurd h (hown g), fun g h => Nat.lt_of_lt_of_le (hi.sS g h) hb.size, fun g h => Nat.lt_of_lt_of_le (hi.sB g h) hb.size, fun k p h => by
    rcases hi.fr k p h with h | h
    · exact .inl (by omega)
    · exact h.2.elim, by simp, ⟨hi.gl.1, hi.gl.2.keep fun g hg => hb.block g ((hi.gl.1 g hg).elim (hi.sS g) (hi.sB g))⟩⟩

theorem join_ok {P : Program} {f : FuncId} (hS : JoinSaid P f) (hg : goodFn P f = true) : ∀ args h ck r h' ck', joinP args h ck = some (r, h', ck') → ∀ R w us, HInv R w h ck (fun _ => False) → ArgsRep R w us args → goodFn P f = true ∧ Calls P f us w (CPost R w h r h' ck' (fun _ => False)) := by
  intro args h ck r h' ck' hr R w us hi ha
  refine ⟨hg, ?_⟩
  unfold joinP at hr
  split at hr
  · rename_i xs sep
    split at hr
    · rename_i ys hz
      split at hr
      · rename_i hc
        obtain ⟨hn, hlen⟩ := hc
        cases hr
        obtain rfl := strsOf_eq hz
        have h0 := repV_tl (ha.2 0 _ rfl)
        have h1 := repV_tl (ha.2 1 _ rfl)
        have hus : us = #[us.getD 0 undef, us.getD 1 undef] := by
          have h1 : us.size = 2 := ha.1.symm ▸ rfl
          apply Array.ext
          · simp [h1]
          · intro i hi1 hi2
            have : i = 0 ∨ i = 1 := by omega
            rcases this with rfl | rfl <;> simp [Array.getD_eq_getD_getElem?, h1]
        generalize hu0 : us.getD 0 undef = u0 at h0 hus
        generalize hu1 : us.getD 1 undef = u1 at h1 hus
        cases h1 with
        | s sb _ hsb =>
          subst hsb
          cases h0 with
          | l A n c _ sz g o f' hl hc' hA hS' hsz hcell hrep =>
            rw [hus]
            cases ys with
            | nil =>
              simp at hl
              subst hl
              refine (hS.1 A c sb w).mono ?_
              rintro e w' ⟨rfl, rfl⟩
              obtain ⟨b1, b2⟩ := below_nil (ck' := ck + 1) hi (by omega) (Below.refl _ w')
              exact ⟨_, R, rfl, .t (.s _ _ rfl), b1, b2⟩
            | cons y ys =>
              have hpos : 0 < n := by rw [← hl]; simp
              have hA' := hA hpos
              subst hA'
              have hsz1 : sz = 1 := by
                have := hsz [.s y] (by simp)
                simpa using this.symm
              subst hsz1
              have hg' := hi.sS g (hS' hpos)
              -- the strings' values
              have hv : ∀ j, (hj : j < (y :: ys).length) → ∃ x : ByteArray, f' j 0 = .string x ∧ x.data.toList = (y :: ys)[j] ∧ w.cell? ⟨g, o + j, none⟩ = some (.string x) := by
                intro j hj
                have hat : at2 ((y :: ys).map fun y => ([.s y] : List T)) j 0 = some (.s (y :: ys)[j]) := by
                  unfold at2
                  rw [List.getElem?_map, List.getElem?_eq_getElem hj]
                  rfl
                have c1 := hcell j 0 _ hat
                have c2 := hrep j 0 _ hat
                rw [Nat.mul_one, Nat.add_zero] at c1
                generalize hfj : f' j 0 = u at c1 c2
                cases c2 with
                | s x _ hx => exact ⟨x, rfl, hx, c1⟩
              obtain ⟨zs, hz1, hz2⟩ : ∃ zs : List ByteArray, zs.map (·.data.toList) = y :: ys ∧ ∀ (j : Nat) x, zs[j]? = some x → w.cell? ⟨g, o + j, none⟩ = some (.string x) := by
                refine ⟨(y :: ys).map fun b => ⟨b.toArray⟩, by simp [Function.comp_def], fun j x hx => ?_⟩
                rw [List.getElem?_map] at hx
                have hj : j < (y :: ys).length := by
                  rcases Nat.lt_or_ge j (y :: ys).length with h | h
                  · exact h
                  · rw [List.getElem?_eq_none h] at hx; cases hx
                rw [List.getElem?_eq_getElem hj] at hx
                obtain ⟨x', q1, q2, q3⟩ := hv j hj
                have : x = x' := by
                  have hx' : x = ⟨((y :: ys)[j]).toArray⟩ := by simpa using hx.symm
                  rw [hx', ← q2]
                rw [this]; exact q3
              have hzl : zs.length = n := by
                have := congrArg List.length hz1
                rw [List.length_map] at this
                rw [this, ← hl, List.length_map]
              have hcall := hS.2 g o c zs sb w hz2 hg' (by rw [hzl, ← hl]; simpa using hn) (by omega) (by rw [hz1]; exact hlen)
              rw [hzl, hz1] at hcall
              refine hcall.mono ?_
              rintro e w' ⟨rfl, hb⟩
              obtain ⟨b1, b2⟩ := below_nil (ck' := ck + 1) hi (by omega) hb
              exact ⟨_, R, rfl, .t (.s _ _ (by simp)), b1, b2⟩
      · cases hr
    · cases hr
  · cases hr
end Go.Pev
