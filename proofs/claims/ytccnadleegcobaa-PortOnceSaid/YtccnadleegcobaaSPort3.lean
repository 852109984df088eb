/- What port.Send tells. -/
import Derived.Test.YtccnadleegcobaaSPort2
import Derived.Test.YtccnadleegcobaaSLink3
import Derived.Test.YtccnadleegcobaaSWin3
set_option linter.unusedVariables false
set_option linter.unusedSimpArgs false
namespace Go.Proofs.Ytccnadleegcobaa.Pv
open Go Go.Pev

/-- A port: the next number, the frames nobody told of, the window's low, and what it saw. -/
structure Prt where
  next : Int
  q : List Fr
  low : Int
  seen : List Int
  deriving DecidableEq
def prV (p : Prt) : V := .ag [iv p.next, .t (fl p.q), iv p.low, .t (il p.seen)]

def busyP (next : Int) (q : List Fr) : Prop := ∃ f r, q = f :: r ∧ 32 ≤ next - f.1
instance (next : Int) (q : List Fr) : Decidable (busyP next q) := by
  unfold busyP
  cases q with
  | nil => exact isFalse (by rintro ⟨f, r, h, _⟩; cases h)
  | cons f r => exact if h : 32 ≤ next - f.1 then isTrue ⟨f, r, rfl, h⟩ else isFalse (by rintro ⟨f', r', e, h'⟩; cases e; exact h h')
def sendP (p : Prt) (text : List UInt8) : Prt × List UInt8 × Int :=
  if (pushP p.next p.q text).2.2.2 = 1 then (p, [], 1)
  else if busyP p.next p.q then (p, [], 8)
  else if (pushP p.next p.q text).2.2.2 = 8 then (p, [], 8)
  else ({ p with next := p.next + 1, q := p.q ++ [(p.next, text)] }, packR 68 p.next text, 0)
def sendV (r : Prt × List UInt8 × Int) : V := .tu [prV r.1, .t (.s r.2.1), iv r.2.2]

theorem upF_fst {last next : Int} {f : Fr} {r : List Fr} (h : upF last next (f :: r) = true) : last < f.1 ∧ f.1 < next := by
  simp only [upF, Bool.and_eq_true, decide_eq_true_eq] at h
  exact h.1
set_option maxHeartbeats 4000000 in
theorem send_ret (p : Prt) (text : List UInt8) (hl : p.q.length ≤ 100000) (ht : text.length ≤ 900000) : RetT cfg 9 [prV p, .t (.s text)] (sendV (sendP p text)) := by
  obtain ⟨next, q, low, seen⟩ := p
  have hp := fun st k => callEv_tr (C := cfg) (push_ret next q text hl) rfl rfl rfl st k
  unfold RetT prV sendP
  simp only at hl
  rw [runL_pf (fn := f9) rfl rfl]
  simp only [pushV, fl, iv] at hp
  unfold pushP at hp ⊢
  by_cases h1 : lright next q = false ∨ next = 2147483647
  · rw [if_pos h1] at hp ⊢
    simp [fl, hp, over]
    refine ⟨_, _, ⟨rfl, rfl⟩, ?_⟩
    simp [sendV, prV, resOf, resOfs, resOf1, treesOf, treeOf, fl]
  rw [if_neg h1] at hp ⊢
  have hb : 0 ≤ next ∧ next ≤ 2147483647 := by
    have h1 : lright next q = true := by
      cases h : lright next q with
      | true => rfl
      | false => exact absurd (.inl h) h1
    simp only [lright, Bool.and_eq_true, decide_eq_true_eq] at h1; omega
  have hu : upF (-1) next q = true := by
    have h1 : lright next q = true := by
      cases h : lright next q with
      | true => rfl
      | false => exact absurd (.inl h) h1
    simp only [lright, Bool.and_eq_true] at h1; exact h1.2
  have hbusy : ∀ f r, q = f :: r → IntKind.i64.wrap (next - f.1) = next - f.1 := fun f r e => by
    subst e
    have := upF_fst hu
    exact wrap_id (by omega) (by omega)
  have hpk := fun st k => callEv_tr (C := cfg) (pack_ret 68 next text ht) rfl rfl rfl st k
  simp only [iv] at hpk
  simp at hpk
  by_cases h2 : busyP next q
  · obtain ⟨f, r, rfl, hge⟩ := h2
    have hbs : busyP next (f :: r) := ⟨f, r, rfl, hge⟩
    have hw := hbusy f r rfl
    have hlen : 0 < r.length + 1 := by omega
    by_cases h3 : (f :: r).length = 64
    · rw [if_pos h3] at hp ⊢
      rw [if_neg (by simp), if_pos hbs]
      simp at hp
      simp [fl, hp, over, hw, hge]
      refine ⟨_, _, ⟨rfl, rfl⟩, ?_⟩
      simp [sendV, prV, resOf, resOfs, resOf1, treesOf, treeOf, fl]
    · rw [if_neg h3] at hp ⊢
      rw [if_neg (by simp), if_pos hbs]
      simp at hp
      simp [fl, hp, over, hw, hge]
      refine ⟨_, _, ⟨rfl, rfl⟩, ?_⟩
      simp [sendV, prV, resOf, resOfs, resOf1, treesOf, treeOf, fl]
  · have hnb : ∀ f r, q = f :: r → next - f.1 < 32 := fun f r e => by
      by_cases h : 32 ≤ next - f.1
      · exact absurd ⟨f, r, e, h⟩ h2
      · omega
    by_cases h3 : q.length = 64
    · rw [if_pos h3] at hp ⊢
      rw [if_neg (by simp), if_neg h2, if_pos rfl]
      cases q with
      | nil => simp at h3
      | cons f r =>
        have hw := hbusy f r rfl
        have hd : ¬ 32 ≤ next - f.1 := by have := hnb f r rfl; omega
        simp at hp
        simp [fl, hp, over, hw, hd]
        refine ⟨_, _, ⟨rfl, rfl⟩, ?_⟩
        simp [sendV, prV, resOf, resOfs, resOf1, treesOf, treeOf, fl]
    · rw [if_neg h3] at hp ⊢
      rw [if_neg (by simp), if_neg h2, if_neg (by simp)]
      cases q with
      | nil =>
        simp at hp
        simp [fl, hp, hpk, over]
        refine ⟨_, _, ⟨rfl, rfl⟩, ?_⟩
        simp [sendV, prV, resOf, resOfs, resOf1, treesOf, treeOf, fl]
      | cons f r =>
        have hw := hbusy f r rfl
        have hd : ¬ 32 ≤ next - f.1 := by have := hnb f r rfl; omega
        simp at hp
        simp [fl, hp, hpk, over, hw, hd]
        refine ⟨_, _, ⟨rfl, rfl⟩, ?_⟩
        simp [sendV, prV, resOf, resOfs, resOf1, treesOf, treeOf, fl]
end Go.Proofs.Ytccnadleegcobaa.Pv
