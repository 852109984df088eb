/- The pure evaluator without fuel: its limit, and the limit's equations. -/
import Derived.Test.YthkehbdljckbdaaCore
set_option linter.unusedVariables false
set_option linter.unusedSimpArgs false
namespace Go.Pev
open Go

open Classical in
noncomputable def limOf {α : Type} (f : Nat → Option α) : Option α := if h : ∃ n, ∃ r, f n = some r then some (Classical.choose (Classical.choose_spec h)) else none

def MonoN {α : Type} (f : Nat → Option α) : Prop := ∀ n r, f n = some r → f (n + 1) = some r

theorem MonoN.le {α : Type} {f : Nat → Option α} (h : MonoN f) {n m : Nat} (hnm : n ≤ m) {r : α} (hr : f n = some r) : f m = some r := by
  induction hnm with
  | refl => exact hr
  | step _ ih => exact h _ _ ih

theorem limOf_iff {α : Type} {f : Nat → Option α} (h : MonoN f) (r : α) : limOf f = some r ↔ ∃ n, f n = some r := by
  unfold limOf
  constructor
  · intro hr
    split at hr
    · rename_i he
      cases hr
      exact ⟨_, Classical.choose_spec (Classical.choose_spec he)⟩
    · cases hr
  · rintro ⟨n, hn⟩
    have he : ∃ n, ∃ r, f n = some r := ⟨n, r, hn⟩
    rw [dif_pos he]
    have h1 := Classical.choose_spec (Classical.choose_spec he)
    rcases Nat.le_total n (Classical.choose he) with hl | hl
    · have := h.le hl hn
      exact h1.symm.trans this
    · have := h.le hl h1
      exact congrArg some (Option.some.inj (this.symm.trans hn))

def RLe (a b : Run) : Prop := ∀ f args h ck r, a f args h ck = some r → b f args h ck = some r

section
variable {C : Cfg}

theorem callPure_le {a b : Run} (h : RLe a b) {f : Nat} {args : List V} {r : V × HP} (hr : callPure a f args = some r) : callPure b f args = some r := by
  unfold callPure at hr ⊢
  cases h1 : a f args [] 0 with
  | none => simp [h1] at hr
  | some x => rw [h _ _ _ _ _ h1]; rw [h1] at hr; exact hr

theorem callEv_le {a b : Run} (h : RLe a b) {f : Nat} {args : List V} {s : St} {k : Key} {r : V × HP × Nat} (hr : callEv C a f args s k = some r) : callEv C b f args s k = some r := by
  unfold callEv at hr ⊢
  by_cases hm : C.hpm f = true
  · rw [if_pos hm] at hr ⊢
    cases h1 : a f args s.hp (s.ck + 1) with
    | none => simp [h1] at hr
    | some x => rw [h _ _ _ _ _ h1]; rw [h1] at hr; exact hr
  · rw [if_neg hm] at hr ⊢
    cases hp : puresOf s.hp args with
    | none => simp [hp] at hr
    | some ps =>
      rw [hp] at hr
      simp only at hr ⊢
      cases h1 : callPure a f ps with
      | none => simp [h1] at hr
      | some x => rw [callPure_le h h1]; rw [h1] at hr; exact hr

theorem callQ_le {a b : Run} (h : RLe a b) {f : Nat} {args : List V} {hp : HP} {r : V} (hr : callQ a f args hp = some r) : callQ b f args hp = some r := by
  unfold callQ at hr ⊢
  cases hps : puresOf hp args with
  | none => simp [hps] at hr
  | some ps =>
    rw [hps] at hr
    simp only at hr ⊢
    cases h1 : callPure a f ps with
    | none => simp [h1] at hr
    | some x => rw [callPure_le h h1]; rw [h1] at hr; exact hr

theorem callO_le {a b : Run} (h : RLe a b) {f : Nat} {args : List V} {hp : HP} {k : Key} {r : V × Ob} (hr : callO C a f args hp k = some r) : callO C b f args hp k = some r := by
  unfold callO at hr ⊢
  cases hf : args.flatMap (keysOf hp) with
  | cons _ _ => rw [hf] at hr; cases hr
  | nil =>
    rw [hf] at hr
    cases hps : puresOf hp args with
    | none => rw [hps] at hr; cases hr
    | some ps =>
      rw [hps] at hr
      simp only at hr ⊢
      cases h1 : callPure a f ps with
      | none => rw [h1] at hr; cases hr
      | some x => rw [callPure_le h h1]; rw [h1] at hr; exact hr
theorem evPo_le {a b : Run} (h : RLe a b) {d me : Nat} {s : St} {p : Po} {r : V × HP × Nat} (hr : evPo C a d me s p = some r) : evPo C b d me s p = some r := by
  cases p
  case call f as => simp only [evPo] at hr ⊢; exact callEv_le h hr
  case callo f as =>
    simp only [evPo] at hr ⊢
    cases h1 : callO C a f (as.map (·.ev s.env)) s.hp ⟨d, s.ck, me⟩ with
    | none => simp [h1] at hr
    | some x => rw [callO_le h h1]; rw [h1] at hr; exact hr
  case callR f as =>
    simp only [evPo] at hr ⊢
    cases h1 : callEv C a f (as.map (·.ev s.env)) s ⟨d, s.ck, me⟩ with
    | none => simp [h1] at hr
    | some x => rw [callEv_le h h1]; rw [h1] at hr; exact hr
  case callq f as =>
    simp only [evPo] at hr ⊢
    cases h1 : callQ a f (as.map (·.ev s.env)) s.hp with
    | none => simp [h1] at hr
    | some x => rw [callQ_le h h1]; rw [h1] at hr; exact hr
  case callv x as =>
    simp only [evPo] at hr ⊢
    split at hr
    · exact callEv_le h hr
    · cases hr
  all_goals exact hr

theorem evG_le {a b : Run} (h : RLe a b) {me : Nat} {s : St} {p : Pop} {r : V × HP × Nat} (hr : evG C a me p s = some r) : evG C b me p s = some r := by
  unfold evG at hr ⊢
  split at hr
  · exact evPo_le h hr
  · split at hr
    · rename_i t want _ _ x hx
      by_cases hw : x = want
      · rw [if_pos hw] at hr ⊢
        exact evPo_le h hr
      · rw [if_neg hw] at hr ⊢
        exact hr
    · exact hr
    · cases hr

theorem evOps_le {a b : Run} (h : RLe a b) : ∀ {qs : List (Nat × Pop)} {s : St} {r : St}, evOps C a qs s = some r → evOps C b qs s = some r
  | [], s, r, hr => hr
  | (i, p) :: qs, s, r, hr => by
    simp only [evOps] at hr ⊢
    unfold evOp at hr ⊢
    cases h1 : evG C a i p s with
    | none => simp [h1] at hr
    | some x =>
      rw [evG_le h h1]
      rw [h1] at hr
      exact evOps_le h hr

def ELe (a b : Pc → St → Option (Ex × St)) : Prop := ∀ c s r, a c s = some r → b c s = some r

theorem thenC_le {x y : Option (Ex × St)} {k l : St → Option (Ex × St)} (h1 : ∀ r, x = some r → y = some r) (h2 : ∀ s r, k s = some r → l s = some r) {r : Ex × St} (hr : thenC x k = some r) : thenC y l = some r := by
  cases x with
  | none => simp [thenC] at hr
  | some x =>
    rw [h1 x rfl]
    obtain ⟨e, s⟩ := x
    cases e with
    | normal => exact h2 _ _ hr
    | exit _ => exact hr
    | ret => exact hr
theorem blockC_le {x y : Option (Ex × St)} (h1 : ∀ r, x = some r → y = some r) {id : Nat} {r : Ex × St} (hr : blockC id x = some r) : blockC id y = some r := by
  cases x with
  | none => simp [blockC] at hr
  | some x => rw [h1 x rfl]; exact hr

theorem evStep_le {a b : Run} {e e' : Pc → St → Option (Ex × St)} (h : RLe a b) (he : ELe e e') {c : Pc} {s : St} {r : Ex × St} (hr : evStep C a e c s = some r) : evStep C b e' c s = some r := by
  cases c with
  | skip => exact hr
  | exit _ => exact hr
  | ret => exact hr
  | reg ops k kh =>
    simp only [evStep] at hr ⊢
    cases h1 : evOps C a ops s with
    | none => simp [h1] at hr
    | some x => rw [evOps_le h h1]; rw [h1] at hr; exact hr
  | seq x y => exact thenC_le (he _ _) (he _) hr
  | loop x => exact thenC_le (he _ _) (he _) hr
  | block id x => exact blockC_le (he _ _) hr
  | cond t x y =>
    simp only [evStep] at hr ⊢
    split at hr
    · exact he _ _ _ hr
    · exact he _ _ _ hr
    · cases hr

theorem runFn_le {e e' : Pc → St → Option (Ex × St)} (he : ELe e e') {fn : Pfn} {args : List V} {h : HP} {ck : Nat} {r : V × HP × Nat} (hr : runFn e fn args h ck = some r) : runFn e' fn args h ck = some r := by
  unfold runFn at hr ⊢
  split at hr
  · rename_i hl
    rw [if_pos hl]
    cases h1 : e fn.body ⟨envOf 0 args, h, ck⟩ with
    | none => simp [h1] at hr
    | some x => rw [he _ _ _ h1]; rw [h1] at hr; exact hr
  · cases hr

theorem runWith_le {e e' : Pc → St → Option (Ex × St)} (he : ELe e e') : RLe (runWith C e) (runWith C e') := by
  intro f args h ck r hr
  unfold runWith at hr ⊢
  split at hr
  · exact hr
  · split at hr
    · cases hr
    · exact runFn_le he hr

theorem mono_all : ∀ n, RLe (run C n) (run C (n + 1)) ∧ ELe (ev C n) (ev C (n + 1))
  | 0 => ⟨fun f args h ck r hr => by simp [run] at hr, fun c s r hr => by simp [ev] at hr⟩
  | n + 1 => by
    obtain ⟨h1, h2⟩ := mono_all n
    refine ⟨fun f args h ck r hr => ?_, fun c s r hr => ?_⟩
    · simp only [run] at hr ⊢
      exact runWith_le h2 f args h ck r hr
    · rw [ev] at hr ⊢
      exact evStep_le h1 h2 hr

/-- Calls, without fuel. -/
noncomputable def runL (C : Cfg) : Run := fun f args h ck => limOf fun n => run C n f args h ck
/-- Code, without fuel. -/
noncomputable def evL (C : Cfg) (c : Pc) (s : St) : Option (Ex × St) := limOf fun n => ev C n c s

theorem runL_iff {f : Nat} {args : List V} {h : HP} {ck : Nat} (r : V × HP × Nat) : runL C f args h ck = some r ↔ ∃ n, run C n f args h ck = some r :=
  limOf_iff (fun n r hr => (mono_all n).1 _ _ _ _ _ hr) r
theorem evL_iff {c : Pc} {s : St} (r : Ex × St) : evL C c s = some r ↔ ∃ n, ev C n c s = some r :=
  limOf_iff (fun n r hr => (mono_all n).2 _ _ _ hr) r

theorem run_le {n m : Nat} (h : n ≤ m) : RLe (run C n) (run C m) := fun f args hh ck r hr => MonoN.le (f := fun n => run C n f args hh ck) (fun n r hr => (mono_all n).1 _ _ _ _ _ hr) h hr
theorem ev_le {n m : Nat} (h : n ≤ m) : ELe (ev C n) (ev C m) := fun c s r hr => MonoN.le (f := fun n => ev C n c s) (fun n r hr => (mono_all n).2 _ _ _ hr) h hr
theorem run_lim (n : Nat) : RLe (run C n) (runL C) := fun f args h ck r hr => (runL_iff r).2 ⟨n, hr⟩
theorem ev_lim (n : Nat) : ELe (ev C n) (evL C) := fun c s r hr => (evL_iff r).2 ⟨n, hr⟩

theorem callPure_cont {f : Nat} {args : List V} {r : V × HP} (hr : callPure (runL C) f args = some r) : ∃ n, callPure (run C n) f args = some r := by
  unfold callPure at hr
  cases h1 : runL C f args [] 0 with
  | none => simp [h1] at hr
  | some x =>
    obtain ⟨n, hn⟩ := (runL_iff x).1 h1
    refine ⟨n, ?_⟩
    unfold callPure
    rw [hn]
    rw [h1] at hr
    exact hr

theorem callEv_cont {f : Nat} {args : List V} {s : St} {k : Key} {r : V × HP × Nat} (hr : callEv C (runL C) f args s k = some r) : ∃ n, callEv C (run C n) f args s k = some r := by
  unfold callEv at hr
  by_cases hm : C.hpm f = true
  · rw [if_pos hm] at hr
    cases h1 : runL C f args s.hp (s.ck + 1) with
    | none => simp [h1] at hr
    | some x =>
      obtain ⟨n, hn⟩ := (runL_iff x).1 h1
      refine ⟨n, ?_⟩
      unfold callEv
      rw [if_pos hm, hn]
      rw [h1] at hr
      exact hr
  · rw [if_neg hm] at hr
    cases hp : puresOf s.hp args with
    | none => simp [hp] at hr
    | some ps =>
      rw [hp] at hr
      simp only at hr
      cases h1 : callPure (runL C) f ps with
      | none => simp [h1] at hr
      | some x =>
        obtain ⟨n, hn⟩ := callPure_cont h1
        refine ⟨n, ?_⟩
        unfold callEv
        rw [if_neg hm, hp]
        simp only
        rw [hn]
        rw [h1] at hr
        exact hr

theorem callQ_cont {f : Nat} {args : List V} {hp : HP} {r : V} (hr : callQ (runL C) f args hp = some r) : ∃ n, callQ (run C n) f args hp = some r := by
  unfold callQ at hr
  cases hps : puresOf hp args with
  | none => simp [hps] at hr
  | some ps =>
    rw [hps] at hr
    simp only at hr
    cases h1 : callPure (runL C) f ps with
    | none => simp [h1] at hr
    | some x =>
      obtain ⟨n, hn⟩ := callPure_cont h1
      refine ⟨n, ?_⟩
      unfold callQ
      rw [hps]
      simp only
      rw [hn]
      rw [h1] at hr
      exact hr

theorem callO_cont {f : Nat} {args : List V} {hp : HP} {k : Key} {r : V × Ob} (hr : callO C (runL C) f args hp k = some r) : ∃ n, callO C (run C n) f args hp k = some r := by
  unfold callO at hr
  cases hf : args.flatMap (keysOf hp) with
  | cons _ _ => rw [hf] at hr; cases hr
  | nil =>
    rw [hf] at hr
    cases hps : puresOf hp args with
    | none => rw [hps] at hr; cases hr
    | some ps =>
      rw [hps] at hr
      simp only at hr
      cases h1 : callPure (runL C) f ps with
      | none => rw [h1] at hr; cases hr
      | some x =>
        obtain ⟨n, hn⟩ := callPure_cont h1
        refine ⟨n, ?_⟩
        unfold callO
        rw [hf, hps]
        simp only
        rw [hn]
        rw [h1] at hr
        exact hr
theorem evPo_cont {d me : Nat} {s : St} {p : Po} {r : V × HP × Nat} (hr : evPo C (runL C) d me s p = some r) : ∃ n, evPo C (run C n) d me s p = some r := by
  cases p
  case call f as => simp only [evPo] at hr ⊢; exact callEv_cont hr
  case callo f as =>
    simp only [evPo] at hr ⊢
    cases h1 : callO C (runL C) f (as.map (·.ev s.env)) s.hp ⟨d, s.ck, me⟩ with
    | none => simp [h1] at hr
    | some x =>
      obtain ⟨n, hn⟩ := callO_cont h1
      refine ⟨n, ?_⟩
      rw [hn]; rw [h1] at hr; exact hr
  case callR f as =>
    simp only [evPo] at hr ⊢
    cases h1 : callEv C (runL C) f (as.map (·.ev s.env)) s ⟨d, s.ck, me⟩ with
    | none => simp [h1] at hr
    | some x =>
      obtain ⟨n, hn⟩ := callEv_cont h1
      refine ⟨n, ?_⟩
      rw [hn]; rw [h1] at hr; exact hr
  case callq f as =>
    simp only [evPo] at hr ⊢
    cases h1 : callQ (runL C) f (as.map (·.ev s.env)) s.hp with
    | none => simp [h1] at hr
    | some x =>
      obtain ⟨n, hn⟩ := callQ_cont h1
      refine ⟨n, ?_⟩
      rw [hn]; rw [h1] at hr; exact hr
  case callv x as =>
    simp only [evPo] at hr ⊢
    cases hx : x.ev s.env <;> rw [hx] at hr <;> first
      | (cases hr; done)
      | exact callEv_cont hr
  all_goals exact ⟨0, hr⟩

theorem evG_cont {me : Nat} {s : St} {p : Pop} {r : V × HP × Nat} (hr : evG C (runL C) me p s = some r) : ∃ n, evG C (run C n) me p s = some r := by
  unfold evG at hr ⊢
  split at hr
  · exact evPo_cont hr
  · split at hr
    · rename_i t want _ _ x hx
      by_cases hw : x = want
      · rw [if_pos hw] at hr
        obtain ⟨n, hn⟩ := evPo_cont hr
        exact ⟨n, by rw [if_pos hw]; exact hn⟩
      · rw [if_neg hw] at hr
        exact ⟨0, by rw [if_neg hw]; exact hr⟩
    · exact ⟨0, hr⟩
    · cases hr

theorem evOps_cont : ∀ {qs : List (Nat × Pop)} {s : St} {r : St}, evOps C (runL C) qs s = some r → ∃ n, evOps C (run C n) qs s = some r
  | [], s, r, hr => ⟨0, hr⟩
  | (i, p) :: qs, s, r, hr => by
    simp only [evOps] at hr
    unfold evOp at hr
    cases h1 : evG C (runL C) i p s with
    | none => simp [h1] at hr
    | some x =>
      rw [h1] at hr
      simp only [Option.map_some] at hr
      obtain ⟨n, hn⟩ := evG_cont h1
      obtain ⟨m, hm⟩ := evOps_cont hr
      refine ⟨max n m, ?_⟩
      simp only [evOps]
      unfold evOp
      rw [evG_le (run_le (Nat.le_max_left n m)) hn]
      exact evOps_le (run_le (Nat.le_max_right n m)) hm

theorem thenC_cont {a b : Pc} {s : St} {r : Ex × St} (hr : thenC (evL C a s) (evL C b) = some r) : ∃ n, thenC (ev C n a s) (ev C n b) = some r := by
  cases h1 : evL C a s with
  | none => simp [h1, thenC] at hr
  | some x =>
    obtain ⟨n, hn⟩ := (evL_iff x).1 h1
    rw [h1] at hr
    obtain ⟨e, s1⟩ := x
    cases e with
    | normal =>
      obtain ⟨m, hm⟩ := (evL_iff r).1 hr
      refine ⟨max n m, ?_⟩
      rw [ev_le (Nat.le_max_left n m) _ _ _ hn]
      exact ev_le (Nat.le_max_right n m) _ _ _ hm
    | exit id => exact ⟨n, by rw [hn]; exact hr⟩
    | ret => exact ⟨n, by rw [hn]; exact hr⟩

/-- The limit's equation. -/
theorem evL_eq (c : Pc) (s : St) : evL C c s = evStep C (runL C) (evL C) c s := by
  apply Option.ext
  intro r
  constructor
  · intro h
    obtain ⟨n, hn⟩ := (evL_iff r).1 h
    cases n with
    | zero => simp [ev] at hn
    | succ n =>
      rw [ev] at hn
      exact evStep_le (run_lim n) (ev_lim n) hn
  · intro h
    refine (evL_iff r).2 ?_
    have : ∃ n, evStep C (run C n) (ev C n) c s = some r := by
      cases c with
      | skip => exact ⟨0, h⟩
      | exit _ => exact ⟨0, h⟩
      | ret => exact ⟨0, h⟩
      | reg ops k kh =>
        simp only [evStep] at h ⊢
        cases h1 : evOps C (runL C) ops s with
        | none => simp [h1] at h
        | some x =>
          obtain ⟨n, hn⟩ := evOps_cont h1
          exact ⟨n, by rw [hn]; rw [h1] at h; exact h⟩
      | seq x y => exact thenC_cont h
      | loop x => exact thenC_cont h
      | block id x =>
        simp only [evStep] at h ⊢
        cases h1 : evL C x s with
        | none => simp [h1, blockC] at h
        | some y =>
          obtain ⟨n, hn⟩ := (evL_iff y).1 h1
          exact ⟨n, by rw [hn]; rw [h1] at h; exact h⟩
      | cond t x y =>
        simp only [evStep] at h ⊢
        split at h
        · rename_i hb
          obtain ⟨n, hn⟩ := (evL_iff r).1 h
          exact ⟨n, hn⟩
        · rename_i hb
          obtain ⟨n, hn⟩ := (evL_iff r).1 h
          exact ⟨n, hn⟩
        · cases h
    obtain ⟨n, hn⟩ := this
    exact ⟨n + 1, by rw [ev]; exact hn⟩

theorem runL_eq (f : Nat) (args : List V) (h : HP) (ck : Nat) : runL C f args h ck = runWith C (evL C) f args h ck := by
  apply Option.ext
  intro r
  constructor
  · intro hr
    obtain ⟨n, hn⟩ := (runL_iff r).1 hr
    cases n with
    | zero => simp [run] at hn
    | succ n =>
      rw [run] at hn
      exact runWith_le (ev_lim n) _ _ _ _ _ hn
  · intro hr
    refine (runL_iff r).2 ?_
    have : ∃ n, runWith C (ev C n) f args h ck = some r := by
      unfold runWith at hr ⊢
      split at hr
      · exact ⟨0, hr⟩
      · split at hr
        · cases hr
        · rename_i fn _
          unfold runFn at hr ⊢
          split at hr
          · rename_i hl
            cases h1 : evL C fn.body ⟨envOf 0 args, h, ck⟩ with
            | none => simp [h1] at hr
            | some x =>
              obtain ⟨n, hn⟩ := (evL_iff x).1 h1
              refine ⟨n, ?_⟩
              rw [if_pos hl, hn]
              rw [h1] at hr
              exact hr
          · cases hr
    obtain ⟨n, hn⟩ := this
    exact ⟨n + 1, by rw [run]; exact hn⟩

/-! ### the equations, one by one -/
theorem evL_skip (s : St) : evL C .skip s = some (.normal, s) := evL_eq _ _
theorem evL_exit (id : Nat) (s : St) : evL C (.exit id) s = some (.exit id, s) := evL_eq _ _
theorem evL_ret (s : St) : evL C .ret s = some (.ret, s) := evL_eq _ _
theorem evL_reg (ops : List (Nat × Pop)) (k kh : List Nat) (s : St) : evL C (.reg ops k kh) s = (evOps C (runL C) ops s).bind fun s' => some (.normal, endReg k kh s') := by
  rw [evL_eq]
  simp only [evStep]
  cases evOps C (runL C) ops s <;> rfl
theorem evL_seq (a b : Pc) (s : St) : evL C (.seq a b) s = thenC (evL C a s) (evL C b) := evL_eq _ _
theorem evL_block (id : Nat) (a : Pc) (s : St) : evL C (.block id a) s = blockC id (evL C a s) := evL_eq _ _
theorem evL_loop (a : Pc) (s : St) : evL C (.loop a) s = thenC (evL C a s) (evL C (.loop a)) := evL_eq _ _
theorem evL_cond (x : Opd) (a b : Pc) (s : St) : evL C (.cond x a b) s = (match x.ev s.env with
    | .t (.b true) => evL C a s
    | .t (.b false) => evL C b s
    | _ => none) := evL_eq _ _
theorem runL_pf {f : Nat} {fn : Pfn} (h1 : C.ex f = none) (h2 : C.pf f = some fn) (args : List V) (h : HP) (ck : Nat) : runL C f args h ck = runFn (evL C) fn args h ck := by
  rw [runL_eq]
  unfold runWith
  rw [h1, h2]
theorem runL_ex {f : Nat} {p : List V → HP → Nat → Option (V × HP × Nat)} (h1 : C.ex f = some p) (args : List V) (h : HP) (ck : Nat) : runL C f args h ck = p args h ck := by
  rw [runL_eq]
  unfold runWith
  rw [h1]
end
end Go.Pev
