/- The functions of these laws, and that they are the program's. -/
import Derived.Test.YtldbikinnoiacaaPrim
import Derived.Test.YtldbikinnoiacaaLib
import Derived.Test.YtldbikinnoiacaaForms
import Derived.Test.YtldbikinnoiacaaRet
set_option linter.unusedVariables false
namespace Go.Proofs.Ytldbikinnoiacaa.Pv
open Go Go.Pev

def tab : List (Nat × Pfn) := [(3, f3),
  (4, f4),
  (5, f5),
  (6, f6),
  (7, f7),
  (8, f8),
  (9, f9),
  (10, f10),
  (11, f11),
  (12, f12),
  (13, f13),
  (14, f14),
  (15, f15),
  (16, f16),
  (19, f19),
  (20, f20),
  (21, f21),
  (22, f22),
  (23, f23),
  (27, f27),
  (28, f28)]
def exs : List (Nat × (List V → HP → Nat → Option (V × HP × Nat))) := [(17, cloneP 3 1 8),
  (26, cloneP 22 1 24),
  (18, sortP)]
def owns : List Nat := [17, 26]
def hpms : List Nat := [21, 22, 18]
def cfg : Cfg := ⟨fun f => tab.lookup f, fun f => owns.contains f, fun f => hpms.contains f, fun f => exs.lookup f⟩

theorem lookup_mem {α : Type} {f : Nat} {fn : α} : ∀ {l : List (Nat × α)}, l.lookup f = some fn → (f, fn) ∈ l
  | [], h => by cases h
  | (g, gn) :: l, h => by
    rw [List.lookup_cons] at h
    by_cases e : f = g
    · subst e; simp at h; subst h; exact List.mem_cons_self
    · have : (f == g) = false := by simpa using e
      rw [this] at h
      exact List.mem_cons_of_mem _ (lookup_mem h)

def Fine (p : Nat × Pfn) : Prop := (∃ A, compF Go.Proofs.Try.prog A p.1 = some p.2) ∧ goodFn Go.Proofs.Try.prog p.1 = true
theorem mixed : Go.Proofs.Try.prog.follows .mixedOrders = true := by kernel_rfl

theorem g3 : Fine (3, f3) := ⟨⟨_, f3C⟩, by kernel_rfl⟩
theorem g4 : Fine (4, f4) := ⟨⟨_, f4C⟩, by kernel_rfl⟩
theorem g5 : Fine (5, f5) := ⟨⟨_, f5C⟩, by kernel_rfl⟩
theorem g6 : Fine (6, f6) := ⟨⟨_, f6C⟩, by kernel_rfl⟩
theorem g7 : Fine (7, f7) := ⟨⟨_, f7C⟩, by kernel_rfl⟩
theorem g8 : Fine (8, f8) := ⟨⟨_, f8C⟩, by kernel_rfl⟩
theorem g9 : Fine (9, f9) := ⟨⟨_, f9C⟩, by kernel_rfl⟩
theorem g10 : Fine (10, f10) := ⟨⟨_, f10C⟩, by kernel_rfl⟩
theorem g11 : Fine (11, f11) := ⟨⟨_, f11C⟩, by kernel_rfl⟩
theorem g12 : Fine (12, f12) := ⟨⟨_, f12C⟩, by kernel_rfl⟩
theorem g13 : Fine (13, f13) := ⟨⟨_, f13C⟩, by kernel_rfl⟩
theorem g14 : Fine (14, f14) := ⟨⟨_, f14C⟩, by kernel_rfl⟩
theorem g15 : Fine (15, f15) := ⟨⟨_, f15C⟩, by kernel_rfl⟩
theorem g16 : Fine (16, f16) := ⟨⟨_, f16C⟩, by kernel_rfl⟩
theorem g19 : Fine (19, f19) := ⟨⟨_, f19C⟩, by kernel_rfl⟩
theorem g20 : Fine (20, f20) := ⟨⟨_, f20C⟩, by kernel_rfl⟩
theorem g21 : Fine (21, f21) := ⟨⟨_, f21C⟩, by kernel_rfl⟩
theorem g22 : Fine (22, f22) := ⟨⟨_, f22C⟩, by kernel_rfl⟩
theorem g23 : Fine (23, f23) := ⟨⟨_, f23C⟩, by kernel_rfl⟩
theorem g27 : Fine (27, f27) := ⟨⟨_, f27C⟩, by kernel_rfl⟩
theorem g28 : Fine (28, f28) := ⟨⟨_, f28C⟩, by kernel_rfl⟩
theorem tab_fine : ∀ p ∈ tab, Fine p := by
  unfold tab
  simp only [List.forall_mem_cons]
  exact ⟨g3, g4, g5, g6, g7, g8, g9, g10, g11, g12, g13, g14, g15, g16, g19, g20, g21, g22, g23, g27, g28, by simp⟩

def ExOk (p : Nat × (List V → HP → Nat → Option (V × HP × Nat))) : Prop := ∀ args h ck r h' ck', p.2 args h ck = some (r, h', ck') → ∀ R w us, HInv R w h ck (fun _ => False) → ArgsRep R w us args → goodFn Go.Proofs.Try.prog p.1 = true ∧ Calls Go.Proofs.Try.prog p.1 us w (CPost R w h r h' ck' (fun _ => False))
theorem e17 : ExOk (17, cloneP 3 1 8) := clone_ok mixed (f17C : compF Go.Proofs.Try.prog f17A 17 = some (cloF 3 1 8)) (by kernel_rfl)
theorem e26 : ExOk (26, cloneP 22 1 24) := clone_ok mixed (f26C : compF Go.Proofs.Try.prog f26A 26 = some (cloF 22 1 24)) (by kernel_rfl)
theorem e18 : ExOk (18, sortP) := sort_ok sortSaid (by kernel_rfl)
theorem exs_ok : ∀ p ∈ exs, ExOk p := by
  unfold exs
  simp only [List.forall_mem_cons]
  exact ⟨e17, e26, e18, by simp⟩

theorem cfg_ok : CfgOk Go.Proofs.Try.prog cfg :=
  ⟨mixed, fun f fn h => tab_fine (f, fn) (lookup_mem h), fun f p h => exs_ok (f, p) (lookup_mem h)⟩
end Go.Proofs.Ytldbikinnoiacaa.Pv
