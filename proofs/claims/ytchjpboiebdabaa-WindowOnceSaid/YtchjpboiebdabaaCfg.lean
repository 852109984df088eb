/- The functions of these laws, and that they are the program's. -/
import Derived.Test.YtchjpboiebdabaaPrim
import Derived.Test.YtchjpboiebdabaaLib
import Derived.Test.YtchjpboiebdabaaForms
import Derived.Test.YtchjpboiebdabaaRet
set_option linter.unusedVariables false
namespace Go.Proofs.Ytchjpboiebdabaa.Pv
open Go Go.Pev

def tab : List (Nat × Pfn) := [(9, f9),
  (10, f10),
  (11, f11),
  (12, f12),
  (13, f13),
  (28, f28),
  (29, f29),
  (30, f30),
  (31, f31),
  (32, f32),
  (33, f33),
  (37, f37),
  (50, f50)]
def exs : List (Nat × (List V → HP → Nat → Option (V × HP × Nat))) := [(36, cloneP 3 1 8),
  (44, sortP)]
def owns : List Nat := [36]
def hpms : List Nat := [44]
def cfg : Cfg := ⟨fun f => tab.lookup f, fun f => owns.contains f, fun f => hpms.contains f, fun f => exs.lookup f⟩

theorem lookup_mem {α : Type} {f : Nat} {fn : α} : ∀ {l : List (Nat × α)}, l.lookup f = some fn → (f, fn) ∈ l
  | [], h => by cases h
  | (g, gn) :: l, h => by
    rw [List.lookup_cons] at h
    by_cases e : f = g
    · subst e; simp at h; subst h; exact List.mem_cons_self
    · have : (f == g) = false := by simpa using e
      rw [this] at h
      exact List.mem_cons_of_mem _ (lookup_mem h)

def Fine (p : Nat × Pfn) : Prop := (∃ A, compF Go.Proofs.Try.prog A p.1 = some p.2) ∧ goodFn Go.Proofs.Try.prog p.1 = true
theorem mixed : Go.Proofs.Try.prog.follows .mixedOrders = true := by kernel_rfl

theorem g9 : Fine (9, f9) := ⟨⟨_, f9C⟩, by kernel_rfl⟩
theorem g10 : Fine (10, f10) := ⟨⟨_, f10C⟩, by kernel_rfl⟩
theorem g11 : Fine (11, f11) := ⟨⟨_, f11C⟩, by kernel_rfl⟩
theorem g12 : Fine (12, f12) := ⟨⟨_, f12C⟩, by kernel_rfl⟩
theorem g13 : Fine (13, f13) := ⟨⟨_, f13C⟩, by kernel_rfl⟩
theorem g28 : Fine (28, f28) := ⟨⟨_, f28C⟩, by kernel_rfl⟩
theorem g29 : Fine (29, f29) := ⟨⟨_, f29C⟩, by kernel_rfl⟩
theorem g30 : Fine (30, f30) := ⟨⟨_, f30C⟩, by kernel_rfl⟩
theorem g31 : Fine (31, f31) := ⟨⟨_, f31C⟩, by kernel_rfl⟩
theorem g32 : Fine (32, f32) := ⟨⟨_, f32C⟩, by kernel_rfl⟩
theorem g33 : Fine (33, f33) := ⟨⟨_, f33C⟩, by kernel_rfl⟩
theorem g37 : Fine (37, f37) := ⟨⟨_, f37C⟩, by kernel_rfl⟩
theorem g50 : Fine (50, f50) := ⟨⟨_, f50C⟩, by kernel_rfl⟩
theorem tab_fine : ∀ p ∈ tab, Fine p := by
  unfold tab
  simp only [List.forall_mem_cons]
  exact ⟨g9, g10, g11, g12, g13, g28, g29, g30, g31, g32, g33, g37, g50, by simp⟩

def ExOk (p : Nat × (List V → HP → Nat → Option (V × HP × Nat))) : Prop := ∀ args h ck r h' ck', p.2 args h ck = some (r, h', ck') → ∀ R w us, HInv R w h ck (fun _ => False) → ArgsRep R w us args → goodFn Go.Proofs.Try.prog p.1 = true ∧ Calls Go.Proofs.Try.prog p.1 us w (CPost R w h r h' ck' (fun _ => False))
theorem e36 : ExOk (36, cloneP 3 1 8) := clone_ok mixed (f36C : compF Go.Proofs.Try.prog f36A 36 = some (cloF 3 1 8)) (by kernel_rfl)
theorem e44 : ExOk (44, sortP) := sort_ok sortSaid (by kernel_rfl)
theorem exs_ok : ∀ p ∈ exs, ExOk p := by
  unfold exs
  simp only [List.forall_mem_cons]
  exact ⟨e36, e44, by simp⟩

theorem cfg_ok : CfgOk Go.Proofs.Try.prog cfg :=
  ⟨mixed, fun f fn h => tab_fine (f, fn) (lookup_mem h), fun f p h => exs_ok (f, p) (lookup_mem h)⟩
end Go.Proofs.Ytchjpboiebdabaa.Pv
