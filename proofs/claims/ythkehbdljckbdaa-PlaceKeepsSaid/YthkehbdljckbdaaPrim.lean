/- Contracts of the library's functions, in the pure evaluator's words. -/
import Derived.Test.YthkehbdljckbdaaRow
import Derived.Test.YthkehbdljckbdaaSym
set_option linter.unusedVariables false
set_option linter.unusedSimpArgs false
namespace Go.Pev
open Go Go.RowKit

/-- A configuration of one function. -/
def oneC (f : Nat) (fn : Pfn) : Cfg := ⟨fun g => if g = f then some fn else none, fun _ => false, fun _ => false, fun _ => none⟩

theorem oneC_ok {P : Program} {f : Nat} {fn : Pfn} (hmx : P.follows .mixedOrders = true) {A : Ann} (hA : compF P A f = some fn) (hg : goodFn P f = true) : CfgOk P (oneC f fn) :=
  ⟨hmx, (fun g fn' h => by
    simp only [oneC] at h
    by_cases e : g = f
    · subst e; rw [if_pos rfl] at h; cases h; exact ⟨⟨A, hA⟩, hg⟩
    · rw [if_neg e] at h; cases h), (fun g p h => by cases h)⟩

theorem rename_row {R R' : Rl} {w w' : World} {h1 : HP} {ck c1 ck' : Nat} {v : Value} {k1 : Key} {ty sz : Nat} {els : List (List T)} (k0 : Key) (hk0 : R.μ k0 = none) (hc0 : k0.c < ck') (hcc : c1 ≤ ck') (hv : RepV R' w' v (.ow k1 sz 0 els.length)) (hg : Grow R w [] R' w' h1) (hi : HInv R' w' h1 c1 dn0) (hk : h1.get k1 = some (.row ty sz els false)) :
    ∃ R2, RepV R2 w' v (.ow k0 sz 0 els.length) ∧ Grow R w [] R2 w' [(k0, .row ty sz els false)] ∧ HInv R2 w' [(k0, .row ty sz els false)] ck' dn0 := by
  have hob := hi.ob _ _ hk
  obtain ⟨p, hp⟩ : ∃ p, R'.μ k1 = some p := hob.μ_some
  have hget : ∀ q o, HP.get [(k0, Ob.row ty sz els false)] q = some o → q = k0 ∧ o = .row ty sz els false := by
    intro q o hq
    simp only [HP.get] at hq
    by_cases e : k0 = q
    · rw [if_pos e] at hq; cases hq; exact ⟨e.symm, rfl⟩
    · rw [if_neg e] at hq; cases hq
  have hown : ∀ g, Own { R' with μ := updμ R'.μ k0 p } [(k0, .row ty sz els false)] g → Own R' h1 g := by
    rintro g ⟨q, o, n, g1, g2, g3⟩
    obtain ⟨rfl, rfl⟩ := hget q o g1
    simp only [updμ_same] at g3
    exact ⟨k1, _, n, hk, rfl, by rw [hp, Option.some.inj g3]⟩
  refine ⟨{ R' with μ := updμ R'.μ k0 p }, ?_, ?_, ?_⟩
  · rcases repV_ow hv with ⟨g, tot, A, cap, rfl, hμ, hl, hcap, hA⟩ | ⟨rfl, hμ, _, h0⟩
    · rw [hμ] at hp; cases hp
      exact .ow _ _ _ _ g tot A cap (updμ_same _ _ _) hl hcap hA
    · rw [hμ] at hp; cases hp
      rw [h0]
      exact .owv _ _ (updμ_same _ _ _)
  · exact ⟨hg.os, hg.tape, hg.output, hg.size, hg.keep, hg.S, hg.B, fun q p' hq => by
      show updμ R'.μ k0 p q = some p'
      rw [updμ_other _ _ _ _ (by rintro rfl; rw [hk0] at hq; cases hq)]
      exact hg.μ q p' hq, hg.S', fun g h => hg.own g (hown g h)⟩
  · constructor
    · intro q o hq
      obtain ⟨rfl, rfl⟩ := hget q o hq
      rcases hob with ⟨b1, b2⟩ | ⟨g, tot, arr, b1, b2, b3, b4, b5, b6, b7, b8, b9⟩
      · rw [hp] at b1; cases b1
        exact .inl ⟨updμ_same _ _ _, b2⟩
      · rw [hp] at b1; cases b1
        exact .inr ⟨g, tot, arr, updμ_same _ _ _, b2, b3, b4, b5, b6, b7, b8, b9⟩
    · intro q1 q2 o1 o2 g n1 n2 h1 h2 _ _ _
      rw [(hget _ _ h1).1, (hget _ _ h2).1]
    · exact fun g h => hi.own g (hown g h)
    · exact hi.sS
    · exact hi.sB
    · intro q p' hq
      by_cases e : q = k0
      · subst e; exact .inl hc0
      · simp only [updμ_other _ _ _ _ e] at hq
        rcases hi.fr q p' hq with h | h
        · exact .inl (by omega)
        · exact h.2.elim
    · simp

def cloneP (ty sz by_ : Nat) (args : List V) (h : HP) (ck : Nat) : Option (V × HP × Nat) :=
  match args, h with
  | [.t (.l xs)], [] => if (xs.all fun c => c.length == sz) = true ∧ xs.length * by_ ≤ 140737488355328 ∧ 0 < by_ then some (.ow ⟨0, ck, 0⟩ sz 0 xs.length, [(⟨0, ck, 0⟩, .row ty sz xs false)], ck + 9) else none
  | _, _ => none

theorem clone_ok {P : Program} {f ty sz by_ : Nat} (hmx : P.follows .mixedOrders = true) {A : Ann} (hA : compF P A f = some (cloF ty sz by_)) (hg : goodFn P f = true) : ∀ args h ck r h' ck', cloneP ty sz by_ args h ck = some (r, h', ck') → ∀ R w us, HInv R w h ck (fun _ => False) → ArgsRep R w us args → goodFn P f = true ∧ Calls P f us w (CPost R w h r h' ck' (fun _ => False)) := by
  intro args h ck r h' ck' hr R w us hi ha
  refine ⟨hg, ?_⟩
  unfold cloneP at hr
  split at hr
  · rename_i xs
    split at hr
    · rename_i hc
      obtain ⟨hall, hb, hb0⟩ := hc
      cases hr
      have hC := oneC_ok hmx hA hg
      have hfin : ∀ (v : V) (k : Key) (hh : HP), RepV R w (us.getD 0 undef) v → runFn (evL (oneC f (cloF ty sz by_))) (cloF ty sz by_) [v] [] ck = some (.ow k sz 0 xs.length, hh, ck + 3) → hh.get k = some (.row ty sz xs false) → Calls P f us w (CPost R w [] (.ow ⟨0, ck, 0⟩ sz 0 xs.length) [(⟨0, ck, 0⟩, .row ty sz xs false)] (ck + 9) (fun _ => False)) := by
        intro v k hh hv hrun hget
        have hL : runL (oneC f (cloF ty sz by_)) f [v] [] ck = some (.ow k sz 0 xs.length, hh, ck + 3) := by
          rw [runL_pf (fn := cloF ty sz by_) rfl (by simp [oneC])]
          exact hrun
        obtain ⟨n, hn⟩ := (runL_iff _).1 hL
        obtain ⟨_, g2⟩ := (all_ok hC n).1 f [v] [] ck _ _ _ hn R w us hi ⟨by rw [ha.1]; rfl, fun j x hx => by
          cases j with
          | zero => simp at hx; subst hx; exact hv
          | succ j => simp at hx⟩
        refine g2.mono ?_
        rintro e w' ⟨u, R', he, hv', hg', hi'⟩
        obtain ⟨R2, r1, r2, r3⟩ := rename_row (ck := ck) (ck' := ck + 9) ⟨0, ck, 0⟩ (hi.fresh (k := ⟨0, ck, 0⟩) rfl (fun h => h)).1 (by simp) (by omega) hv' hg' hi' hget
        exact ⟨u, R2, he, r1, r2, r3⟩
      have h0 := ha.2 0 _ rfl
      have hels : ∀ (h : HP) (v : V), treeOf h v = some (.l xs) → elsOf h sz v = some xs := by
        intro h v hv
        unfold elsOf
        rw [hv]
        simp only
        rw [if_pos hall]
      have hrep := repV_tl h0
      generalize hu : us.getD 0 undef = u at h0 hrep hfin
      cases hrep with
      | l B n c _ sz' g o f' hl hc' hB hS hsz hcell hrep =>
        cases xs with
        | nil =>
          simp at hl
          subst hl
          cases B with
          | none =>
            refine hfin .nz ⟨2, ck + 2, 0⟩ _ (.nz c) (clo_nil _ ty sz by_ .nz (.inr rfl) ck) ?_
            simp [HP.get]
          | some B =>
            refine hfin .nn ⟨5, ck + 2, 2⟩ _ (.nn B c) (clo_els _ ty sz by_ .nn [] rfl (fun h => hels h .nn rfl) hb hb0 ck) ?_
            simp [HP.get]
        | cons x xs =>
          refine hfin (.t (.l (x :: xs))) ⟨5, ck + 2, 2⟩ _ h0 (clo_els _ ty sz by_ _ _ rfl (fun h => hels h _ rfl) hb hb0 ck) ?_
          simp [HP.get]
    · cases hr
  · cases hr
end Go.Pev
