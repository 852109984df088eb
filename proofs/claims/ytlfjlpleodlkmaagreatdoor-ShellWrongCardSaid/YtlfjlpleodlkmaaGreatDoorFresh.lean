/- A run's heap has no keys of later counters. -/
import Derived.Test.YtlfjlpleodlkmaaGreatDoorPevC
set_option linter.unusedVariables false
set_option linter.unusedSimpArgs false
namespace Go.Pev
open Go

/-- All keys are of counters up to c. -/
def KLe (h : HP) (c : Nat) : Prop := ∀ p ∈ h, p.1.c ≤ c
/-- All keys are of counters below c. -/
def KL (h : HP) (c : Nat) : Prop := ∀ p ∈ h, p.1.c < c
theorem KL.le {h : HP} {c c' : Nat} (a : KL h c) (b : c ≤ c' + 1) : KLe h c' := fun p hp => by have := a p hp; omega
theorem KLe.lt {h : HP} {c c' : Nat} (a : KLe h c) (b : c < c') : KL h c' := fun p hp => by have := a p hp; omega
theorem KLe.mono {h : HP} {c c' : Nat} (a : KLe h c) (b : c ≤ c') : KLe h c' := fun p hp => by have := a p hp; omega
theorem KLe.cons {h : HP} {c : Nat} {k : Key} {o : Ob} (a : KLe h c) (b : k.c ≤ c) : KLe ((k, o) :: h) c := by
  intro p hp
  rcases List.mem_cons.1 hp with rfl | hp
  · exact b
  · exact a p hp
theorem KLe.put {c : Nat} {k k2 : Key} {o : Ob} (b : k2.c ≤ c) : ∀ {h : HP}, KLe h c → KLe (h.put k k2 o) c
  | [], a => a
  | (k', o') :: r, a => by
    unfold HP.put
    split
    · exact KLe.cons (fun p hp => a p (List.mem_cons_of_mem _ hp)) b
    · exact KLe.cons (KLe.put b (fun p hp => a p (List.mem_cons_of_mem _ hp))) (a (k', o') List.mem_cons_self)
theorem KLe.put_self {c : Nat} {k : Key} {o : Ob} : ∀ {h : HP}, KLe h c → KLe (h.put k k o) c
  | [], a => a
  | (k', o') :: r, a => by
    unfold HP.put
    split
    · next e => exact KLe.cons (fun p hp => a p (List.mem_cons_of_mem _ hp)) (e ▸ a (k', o') List.mem_cons_self)
    · exact KLe.cons (KLe.put_self (fun p hp => a p (List.mem_cons_of_mem _ hp))) (a (k', o') List.mem_cons_self)
theorem KLe.freeze1 {h : HP} {c : Nat} {k : Key} (a : KLe h c) : KLe (freeze1 h k) c := by
  unfold Go.Pev.freeze1
  split
  · exact a.put_self
  · exact a
theorem KLe.freezeAll {c : Nat} : ∀ (ks : List Key) {h : HP}, KLe h c → KLe (freezeAll h ks) c
  | [], h, a => a
  | k :: r, h, a => by unfold Go.Pev.freezeAll; exact KLe.freezeAll r a.freeze1
theorem KLe.store {h h' : HP} {c n : Nat} {v a : V} (k : KLe h c) (hs : store h n v a = some h') : KLe h' c := by
  unfold Go.Pev.store at hs
  repeat' split at hs
  all_goals first | (cases hs; done) | (cases hs; exact k.put_self) | (cases hs; exact (k.freezeAll _).put_self)
theorem KLe.mup {h h' : HP} {c : Nat} {x i v : V} (k : KLe h c) (hs : mup h x i v = some h') : KLe h' c := by
  unfold Go.Pev.mup at hs
  repeat' split at hs
  all_goals first | (cases hs; done) | (cases hs; exact k.put_self)
theorem KLe.clr {h h' : HP} {c n : Nat} {x : V} (k : KLe h c) (hs : clr h n x = some h') : KLe h' c := by
  unfold Go.Pev.clr at hs
  repeat' split at hs
  all_goals first | (cases hs; done) | (cases hs; exact k.put_self)
theorem KLe.app {h : HP} {c ty sz bytes : Nat} {new : Key} {x y : V} {r : V × HP} (k : KLe h c) (hn : new.c ≤ c) (hs : app h ty sz bytes new x y = some r) : KLe r.2 c := by
  unfold Go.Pev.app at hs
  repeat' split at hs
  all_goals first | (cases hs; done) | (cases hs; exact k.cons hn) | (cases hs; refine KLe.put ?_ k; exact hn)
def RunF (run : Run) : Prop := ∀ f args h ck r h' ck', run f args h ck = some (r, h', ck') → KL h ck → KL h' ck' ∧ ck ≤ ck'
theorem callEv_fresh {C : Cfg} {run : Run} (hrun : RunF run) {f : Nat} {args : List V} {s : St} {new : Key} {v : V} {h : HP} {c : Nat} (hr : callEv C run f args s new = some (v, h, c)) (k : KLe s.hp s.ck) (hn : new.c ≤ s.ck) : KLe h c ∧ s.ck ≤ c := by
  unfold callEv at hr
  split at hr
  · split at hr
    · next r h' c' hx =>
      cases hr
      obtain ⟨a, b⟩ := hrun _ _ _ _ _ _ _ hx (k.lt (by omega))
      exact ⟨a.le (by omega), by omega⟩
    · cases hr
  · split at hr
    · split at hr
      · split at hr
        · split at hr
          · split at hr
            · cases hr; exact ⟨(k.freezeAll _).cons hn, Nat.le_refl _⟩
            · cases hr
          · cases hr
        · split at hr
          · cases hr
            split
            · exact ⟨k, Nat.le_refl _⟩
            · exact ⟨k.freezeAll _, Nat.le_refl _⟩
          · cases hr
      · cases hr
    · cases hr
theorem mapF {α : Type} {x : Option α} {g : α → V × HP × Nat} {v : V} {h : HP} {c : Nat} (hr : x.map g = some (v, h, c)) : ∃ y, x = some y ∧ g y = (v, h, c) := by
  cases x with
  | none => cases hr
  | some y => exact ⟨y, rfl, by simpa using hr⟩
theorem mapG {α β : Type} {x : Option α} {g : α → β} {v : β} (hr : x.map g = some v) : ∃ y, x = some y ∧ g y = v := by
  cases x with
  | none => cases hr
  | some y => exact ⟨y, rfl, by simpa using hr⟩
theorem evPo_fresh {C : Cfg} {run : Run} (hrun : RunF run) {d me : Nat} {s : St} {p : Po} {v : V} {h : HP} {c : Nat} (hr : evPo C run d me s p = some (v, h, c)) (k : KLe s.hp s.ck) : KLe h c ∧ s.ck ≤ c := by
  have hn : (⟨d, s.ck, me⟩ : Key).c ≤ s.ck := Nat.le_refl _
  cases p <;> simp only [evPo] at hr
  case call => exact callEv_fresh hrun hr k hn
  case callv =>
    split at hr
    · exact callEv_fresh hrun hr k hn
    · cases hr
  case callR =>
    split at hr
    · next hx =>
      split at hr
      · cases hr; exact callEv_fresh hrun hx k hn
      · cases hr
    · cases hr
  case callK =>
    split at hr
    · next hx =>
      split at hr
      · cases hr; exact callEv_fresh hrun hx k hn
      · cases hr
    · cases hr
  case store => obtain ⟨y, h1, h2⟩ := mapF hr; cases h2; exact ⟨k.store h1, Nat.le_refl _⟩
  case clr => obtain ⟨y, h1, h2⟩ := mapF hr; cases h2; exact ⟨k.clr h1, Nat.le_refl _⟩
  case mup => obtain ⟨y, h1, h2⟩ := mapF hr; cases h2; exact ⟨k.mup h1, Nat.le_refl _⟩
  case storeD => split at hr; · obtain ⟨y, h1, h2⟩ := mapF hr; cases h2; exact ⟨k.store h1, Nat.le_refl _⟩
                 · cases hr
  case storeR => split at hr; · obtain ⟨y, h1, h2⟩ := mapF hr; cases h2; exact ⟨k.store h1, Nat.le_refl _⟩
                 · cases hr
  case storeS => split at hr; · obtain ⟨y, h1, h2⟩ := mapF hr; cases h2; exact ⟨k.store h1, Nat.le_refl _⟩
                 · cases hr
  case app => obtain ⟨y, h1, h2⟩ := mapF hr; cases h2; exact ⟨k.app hn h1, Nat.le_refl _⟩
  case appU => split at hr; · obtain ⟨y, h1, h2⟩ := mapF hr; cases h2; exact ⟨k.app hn h1, Nat.le_refl _⟩
               · cases hr
  case appS => split at hr; · obtain ⟨y, h1, h2⟩ := mapF hr; cases h2; exact ⟨k.app hn h1, Nat.le_refl _⟩
               · cases hr
  case callo => split at hr; · obtain ⟨y, h1, h2⟩ := mapF hr; cases h2; exact ⟨k.cons hn, Nat.le_refl _⟩
                · cases hr
  case bslT => obtain ⟨y, h1, h2⟩ := mapF hr; cases h2; exact ⟨k.freezeAll _, Nat.le_refl _⟩
  case bslO => obtain ⟨y, h1, h2⟩ := mapF hr; cases h2; exact ⟨(k.freezeAll _).cons hn, Nat.le_refl _⟩
  all_goals first
    | (obtain ⟨y, h1, h2⟩ := mapF hr; cases h2; exact ⟨k, Nat.le_refl _⟩)
    | (cases hr; exact ⟨k, Nat.le_refl _⟩)
    | (cases hr; exact ⟨k.cons hn, Nat.le_refl _⟩)
    | (split at hr <;> first | (cases hr; done) | (cases hr; exact ⟨k, Nat.le_refl _⟩) | (cases hr; exact ⟨k.cons hn, Nat.le_refl _⟩) | (obtain ⟨y, h1, h2⟩ := mapF hr; cases h2; exact ⟨k, Nat.le_refl _⟩) | (split at hr <;> first | (cases hr; done) | (cases hr; exact ⟨k, Nat.le_refl _⟩) | (cases hr; exact ⟨k.cons hn, Nat.le_refl _⟩)))
theorem evG_fresh {C : Cfg} {run : Run} (hrun : RunF run) {me : Nat} {s : St} {o : Pop} {v : V} {h : HP} {c : Nat} (hr : evG C run me o s = some (v, h, c)) (k : KLe s.hp s.ck) : KLe h c ∧ s.ck ≤ c := by
  unfold evG at hr
  split at hr
  · exact evPo_fresh hrun hr k
  · split at hr
    · split at hr
      · exact evPo_fresh hrun hr k
      · cases hr; exact ⟨k, Nat.le_refl _⟩
    · cases hr; exact ⟨k, Nat.le_refl _⟩
    · cases hr
theorem evOps_fresh {C : Cfg} {run : Run} (hrun : RunF run) : ∀ (ops : List (Nat × Pop)) {s s' : St}, evOps C run ops s = some s' → KLe s.hp s.ck → KLe s'.hp s'.ck ∧ s.ck ≤ s'.ck
  | [], s, s', hr, k => by cases hr; exact ⟨k, Nat.le_refl _⟩
  | (me, o) :: r, s, s', hr, k => by
    unfold evOps at hr
    split at hr
    · next s1 h1 =>
      unfold evOp at h1
      obtain ⟨y, e1, e2⟩ := mapG h1
      subst e2
      obtain ⟨a, b⟩ := evG_fresh hrun (v := y.1) (h := y.2.1) (c := y.2.2) e1 k
      obtain ⟨a2, b2⟩ := evOps_fresh hrun r hr a
      exact ⟨a2, Nat.le_trans b b2⟩
    · cases hr
def EvF (ev : Pc → St → Option (Ex × St)) : Prop := ∀ c s e s', ev c s = some (e, s') → KL s.hp s.ck → KL s'.hp s'.ck ∧ s.ck ≤ s'.ck
theorem evStep_fresh {C : Cfg} {run : Run} {ev : Pc → St → Option (Ex × St)} (hrun : RunF run) (hev : EvF ev) : EvF (evStep C run ev) := by
  intro c s e s' hr k
  unfold evStep at hr
  split at hr
  · cases hr; exact ⟨k, Nat.le_refl _⟩
  · split at hr
    · next s1 h1 =>
      cases hr
      obtain ⟨a, b⟩ := evOps_fresh hrun _ h1 (k.le (by omega))
      refine ⟨fun p hp => ?_, by show s.ck ≤ s1.ck + 1; omega⟩
      have := a p (List.mem_filter.1 hp).1
      show p.1.c < s1.ck + 1
      omega
    · cases hr
  · unfold thenC at hr
    split at hr
    · next s1 h1 =>
      obtain ⟨a, b⟩ := hev _ _ _ _ h1 k
      obtain ⟨a2, b2⟩ := hev _ _ _ _ hr a
      exact ⟨a2, Nat.le_trans b b2⟩
    · next e1 s1 h1 h2 => cases hr; exact hev _ _ _ _ h2 k
    · cases hr
  · split at hr
    · exact hev _ _ _ _ hr k
    · exact hev _ _ _ _ hr k
    · cases hr
  · unfold blockC at hr
    split at hr
    · next i s1 h1 =>
      split at hr <;> (cases hr; exact hev _ _ _ _ h1 k)
    · exact hev _ _ _ _ hr k
  · unfold thenC at hr
    split at hr
    · next s1 h1 =>
      obtain ⟨a, b⟩ := hev _ _ _ _ h1 k
      obtain ⟨a2, b2⟩ := hev _ _ _ _ hr a
      exact ⟨a2, Nat.le_trans b b2⟩
    · next e1 s1 h1 h2 => cases hr; exact hev _ _ _ _ h2 k
    · cases hr
  · cases hr; exact ⟨k, Nat.le_refl _⟩
  · cases hr; exact ⟨k, Nat.le_refl _⟩
def ExF (C : Cfg) : Prop := ∀ f p, C.ex f = some p → ∀ args h ck r h' ck', p args h ck = some (r, h', ck') → KL h ck → KL h' ck' ∧ ck ≤ ck'
theorem fresh_all {C : Cfg} (hE : ExF C) : ∀ n, EvF (ev C n) ∧ RunF (run C n)
  | 0 => ⟨fun c s e s' hr => (by unfold ev at hr; cases hr), fun f args h ck r h' ck' hr => (by unfold run at hr; cases hr)⟩
  | n + 1 => by
    obtain ⟨a, b⟩ := fresh_all hE n
    refine ⟨fun c s e s' hr => ?_, fun f args h ck r h' ck' hr k => ?_⟩
    · unfold ev at hr
      exact evStep_fresh b a c s e s' hr
    · unfold run runWith at hr
      split at hr
      · next p hp => exact hE f p hp args h ck r h' ck' hr k
      · split at hr
        · cases hr
        · unfold runFn at hr
          split at hr
          · split at hr
            · next s1 h1 =>
              obtain ⟨y, e1, e2⟩ := mapF hr
              cases e2
              exact a _ _ _ _ h1 k
            · next s1 h1 =>
              obtain ⟨y, e1, e2⟩ := mapF hr
              cases e2
              exact a _ _ _ _ h1 k
            · cases hr
          · cases hr
theorem runL_fresh {C : Cfg} (hE : ExF C) {f : Nat} {args : List V} {h : HP} {ck : Nat} {r : V} {h' : HP} {ck' : Nat} (hr : runL C f args h ck = some (r, h', ck')) (k : KL h ck) : KL h' ck' ∧ ck ≤ ck' := by
  obtain ⟨n, hn⟩ := (runL_iff _).1 hr
  exact (fresh_all hE n).2 _ _ _ _ _ _ _ hn k
theorem KL.none {h : HP} {c : Nat} (k : KL h c) {q : Key} (hq : c ≤ q.c) : h.get q = none := by
  induction h with
  | nil => rfl
  | cons p r ih =>
    have h1 := k p List.mem_cons_self
    unfold HP.get
    rw [if_neg (fun e => by rw [e] at h1; omega)]
    exact ih (fun p hp => k p (List.mem_cons_of_mem _ hp))
end Go.Pev
