/- The functions of these laws, and that they are the program's. -/
import Derived.Test.YthkehbdljckbdaaPrim
import Derived.Test.YthkehbdljckbdaaLib
import Derived.Test.YthkehbdljckbdaaForms
import Derived.Test.YthkehbdljckbdaaRet
set_option linter.unusedVariables false
namespace Go.Proofs.Ythkehbdljckbdaa.Pv
open Go Go.Pev

def tab : List (Nat × Pfn) := [(3, f3),
  (4, f4),
  (5, f5),
  (6, f6),
  (7, f7),
  (8, f8),
  (16, f16),
  (17, f17),
  (18, f18),
  (19, f19),
  (20, f20),
  (21, f21),
  (22, f22),
  (23, f23),
  (24, f24),
  (25, f25),
  (26, f26),
  (27, f27),
  (42, f42),
  (45, f45),
  (46, f46),
  (47, f47),
  (48, f48),
  (49, f49),
  (60, f60),
  (61, f61)]
def exs : List (Nat × (List V → HP → Nat → Option (V × HP × Nat))) := [(43, cloneP 3 1 8),
  (59, cloneP 36 1 24),
  (44, sortP)]
def owns : List Nat := [43, 59]
def hpms : List Nat := [46, 47, 44]
def cfg : Cfg := ⟨fun f => tab.lookup f, fun f => owns.contains f, fun f => hpms.contains f, fun f => exs.lookup f⟩

theorem lookup_mem {α : Type} {f : Nat} {fn : α} : ∀ {l : List (Nat × α)}, l.lookup f = some fn → (f, fn) ∈ l
  | [], h => by cases h
  | (g, gn) :: l, h => by
    rw [List.lookup_cons] at h
    by_cases e : f = g
    · subst e; simp at h; subst h; exact List.mem_cons_self
    · have : (f == g) = false := by simpa using e
      rw [this] at h
      exact List.mem_cons_of_mem _ (lookup_mem h)

def Fine (p : Nat × Pfn) : Prop := (∃ A, compF Go.Proofs.Try.prog A p.1 = some p.2) ∧ goodFn Go.Proofs.Try.prog p.1 = true
theorem mixed : Go.Proofs.Try.prog.follows .mixedOrders = true := by kernel_rfl

theorem g3 : Fine (3, f3) := ⟨⟨_, f3C⟩, by kernel_rfl⟩
theorem g4 : Fine (4, f4) := ⟨⟨_, f4C⟩, by kernel_rfl⟩
theorem g5 : Fine (5, f5) := ⟨⟨_, f5C⟩, by kernel_rfl⟩
theorem g6 : Fine (6, f6) := ⟨⟨_, f6C⟩, by kernel_rfl⟩
theorem g7 : Fine (7, f7) := ⟨⟨_, f7C⟩, by kernel_rfl⟩
theorem g8 : Fine (8, f8) := ⟨⟨_, f8C⟩, by kernel_rfl⟩
theorem g16 : Fine (16, f16) := ⟨⟨_, f16C⟩, by kernel_rfl⟩
theorem g17 : Fine (17, f17) := ⟨⟨_, f17C⟩, by kernel_rfl⟩
theorem g18 : Fine (18, f18) := ⟨⟨_, f18C⟩, by kernel_rfl⟩
theorem g19 : Fine (19, f19) := ⟨⟨_, f19C⟩, by kernel_rfl⟩
theorem g20 : Fine (20, f20) := ⟨⟨_, f20C⟩, by kernel_rfl⟩
theorem g21 : Fine (21, f21) := ⟨⟨_, f21C⟩, by kernel_rfl⟩
theorem g22 : Fine (22, f22) := ⟨⟨_, f22C⟩, by kernel_rfl⟩
theorem g23 : Fine (23, f23) := ⟨⟨_, f23C⟩, by kernel_rfl⟩
theorem g24 : Fine (24, f24) := ⟨⟨_, f24C⟩, by kernel_rfl⟩
theorem g25 : Fine (25, f25) := ⟨⟨_, f25C⟩, by kernel_rfl⟩
theorem g26 : Fine (26, f26) := ⟨⟨_, f26C⟩, by kernel_rfl⟩
theorem g27 : Fine (27, f27) := ⟨⟨_, f27C⟩, by kernel_rfl⟩
theorem g42 : Fine (42, f42) := ⟨⟨_, f42C⟩, by kernel_rfl⟩
theorem g45 : Fine (45, f45) := ⟨⟨_, f45C⟩, by kernel_rfl⟩
theorem g46 : Fine (46, f46) := ⟨⟨_, f46C⟩, by kernel_rfl⟩
theorem g47 : Fine (47, f47) := ⟨⟨_, f47C⟩, by kernel_rfl⟩
theorem g48 : Fine (48, f48) := ⟨⟨_, f48C⟩, by kernel_rfl⟩
theorem g49 : Fine (49, f49) := ⟨⟨_, f49C⟩, by kernel_rfl⟩
theorem g60 : Fine (60, f60) := ⟨⟨_, f60C⟩, by kernel_rfl⟩
theorem g61 : Fine (61, f61) := ⟨⟨_, f61C⟩, by kernel_rfl⟩
theorem tab_fine : ∀ p ∈ tab, Fine p := by
  unfold tab
  simp only [List.forall_mem_cons]
  exact ⟨g3, g4, g5, g6, g7, g8, g16, g17, g18, g19, g20, g21, g22, g23, g24, g25, g26, g27, g42, g45, g46, g47, g48, g49, g60, g61, by simp⟩

def ExOk (p : Nat × (List V → HP → Nat → Option (V × HP × Nat))) : Prop := ∀ args h ck r h' ck', p.2 args h ck = some (r, h', ck') → ∀ R w us, HInv R w h ck (fun _ => False) → ArgsRep R w us args → goodFn Go.Proofs.Try.prog p.1 = true ∧ Calls Go.Proofs.Try.prog p.1 us w (CPost R w h r h' ck' (fun _ => False))
theorem e43 : ExOk (43, cloneP 3 1 8) := clone_ok mixed (f43C : compF Go.Proofs.Try.prog f43A 43 = some (cloF 3 1 8)) (by kernel_rfl)
theorem e59 : ExOk (59, cloneP 36 1 24) := clone_ok mixed (f59C : compF Go.Proofs.Try.prog f59A 59 = some (cloF 36 1 24)) (by kernel_rfl)
theorem e44 : ExOk (44, sortP) := sort_ok sortSaid (by kernel_rfl)
theorem exs_ok : ∀ p ∈ exs, ExOk p := by
  unfold exs
  simp only [List.forall_mem_cons]
  exact ⟨e43, e59, e44, by simp⟩

theorem cfg_ok : CfgOk Go.Proofs.Try.prog cfg :=
  ⟨mixed, fun f fn h => tab_fine (f, fn) (lookup_mem h), fun f p h => exs_ok (f, p) (lookup_mem h)⟩
end Go.Proofs.Ythkehbdljckbdaa.Pv
