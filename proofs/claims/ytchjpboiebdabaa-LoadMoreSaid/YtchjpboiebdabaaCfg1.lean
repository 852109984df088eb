/- The functions of these laws, and that they are the program's. -/
import Derived.Test.YtchjpboiebdabaaPrim
import Derived.Test.YtchjpboiebdabaaRet
import Derived.Test.YtchjpboiebdabaaForms
set_option linter.unusedVariables false
namespace Go.Proofs.Ytchjpboiebdabaa.Pv
open Go Go.Pev

def tab : List (Nat × Pfn) := [(3, f3),
  (4, f4),
  (5, f5),
  (6, f6),
  (7, f7),
  (8, f8),
  (14, f14),
  (15, f15),
  (16, f16),
  (17, f17),
  (18, f18),
  (19, f19),
  (20, f20),
  (21, f21),
  (22, f22),
  (23, f23),
  (24, f24),
  (25, f25),
  (26, f26),
  (27, f27),
  (37, f37),
  (38, f38),
  (39, f39),
  (40, f40),
  (41, f41),
  (42, f42),
  (43, f43),
  (46, f46),
  (50, f50),
  (51, f51)]
def cloI : Nat := 36
def cfg : Cfg := ⟨fun f => tab.lookup f, fun f => f == cloI, fun _ => false, fun f => if f == cloI then some (cloneP 3 1 8) else none⟩

theorem lookup_mem {f : Nat} {fn : Pfn} : ∀ {l : List (Nat × Pfn)}, l.lookup f = some fn → (f, fn) ∈ l
  | [], h => by cases h
  | (g, gn) :: l, h => by
    rw [List.lookup_cons] at h
    by_cases e : f = g
    · subst e; simp at h; subst h; exact List.mem_cons_self
    · have : (f == g) = false := by simpa using e
      rw [this] at h
      exact List.mem_cons_of_mem _ (lookup_mem h)

def Fine (p : Nat × Pfn) : Prop := (∃ A, compF Go.Proofs.Try.prog A p.1 = some p.2) ∧ goodFn Go.Proofs.Try.prog p.1 = true
theorem mixed : Go.Proofs.Try.prog.follows .mixedOrders = true := by kernel_rfl

theorem g3 : Fine (3, f3) := ⟨⟨_, f3C⟩, by kernel_rfl⟩
theorem g4 : Fine (4, f4) := ⟨⟨_, f4C⟩, by kernel_rfl⟩
theorem g5 : Fine (5, f5) := ⟨⟨_, f5C⟩, by kernel_rfl⟩
theorem g6 : Fine (6, f6) := ⟨⟨_, f6C⟩, by kernel_rfl⟩
theorem g7 : Fine (7, f7) := ⟨⟨_, f7C⟩, by kernel_rfl⟩
theorem g8 : Fine (8, f8) := ⟨⟨_, f8C⟩, by kernel_rfl⟩
theorem g14 : Fine (14, f14) := ⟨⟨_, f14C⟩, by kernel_rfl⟩
theorem g15 : Fine (15, f15) := ⟨⟨_, f15C⟩, by kernel_rfl⟩
theorem g16 : Fine (16, f16) := ⟨⟨_, f16C⟩, by kernel_rfl⟩
theorem g17 : Fine (17, f17) := ⟨⟨_, f17C⟩, by kernel_rfl⟩
theorem g18 : Fine (18, f18) := ⟨⟨_, f18C⟩, by kernel_rfl⟩
theorem g19 : Fine (19, f19) := ⟨⟨_, f19C⟩, by kernel_rfl⟩
theorem g20 : Fine (20, f20) := ⟨⟨_, f20C⟩, by kernel_rfl⟩
theorem g21 : Fine (21, f21) := ⟨⟨_, f21C⟩, by kernel_rfl⟩
theorem g22 : Fine (22, f22) := ⟨⟨_, f22C⟩, by kernel_rfl⟩
theorem g23 : Fine (23, f23) := ⟨⟨_, f23C⟩, by kernel_rfl⟩
theorem g24 : Fine (24, f24) := ⟨⟨_, f24C⟩, by kernel_rfl⟩
theorem g25 : Fine (25, f25) := ⟨⟨_, f25C⟩, by kernel_rfl⟩
theorem g26 : Fine (26, f26) := ⟨⟨_, f26C⟩, by kernel_rfl⟩
theorem g27 : Fine (27, f27) := ⟨⟨_, f27C⟩, by kernel_rfl⟩
theorem g37 : Fine (37, f37) := ⟨⟨_, f37C⟩, by kernel_rfl⟩
theorem g38 : Fine (38, f38) := ⟨⟨_, f38C⟩, by kernel_rfl⟩
theorem g39 : Fine (39, f39) := ⟨⟨_, f39C⟩, by kernel_rfl⟩
theorem g40 : Fine (40, f40) := ⟨⟨_, f40C⟩, by kernel_rfl⟩
theorem g41 : Fine (41, f41) := ⟨⟨_, f41C⟩, by kernel_rfl⟩
theorem g42 : Fine (42, f42) := ⟨⟨_, f42C⟩, by kernel_rfl⟩
theorem g43 : Fine (43, f43) := ⟨⟨_, f43C⟩, by kernel_rfl⟩
theorem g46 : Fine (46, f46) := ⟨⟨_, f46C⟩, by kernel_rfl⟩
theorem g50 : Fine (50, f50) := ⟨⟨_, f50C⟩, by kernel_rfl⟩
theorem g51 : Fine (51, f51) := ⟨⟨_, f51C⟩, by kernel_rfl⟩
theorem tab_fine : ∀ p ∈ tab, Fine p := by
  unfold tab
  simp only [List.forall_mem_cons]
  exact ⟨g3, g4, g5, g6, g7, g8, g14, g15, g16, g17, g18, g19, g20, g21, g22, g23, g24, g25, g26, g27, g37, g38, g39, g40, g41, g42, g43, g46, g50, g51, by simp⟩

theorem cloC : compF Go.Proofs.Try.prog f36A 36 = some (cloF 3 1 8) := f36C
theorem cloG : goodFn Go.Proofs.Try.prog 36 = true := by kernel_rfl

theorem cfg_ok : CfgOk Go.Proofs.Try.prog cfg := by
  refine ⟨mixed, fun f fn h => tab_fine (f, fn) (lookup_mem h), fun f p h => ?_⟩
  simp only [cfg] at h
  by_cases e : f = cloI
  · subst e
    simp at h
    subst h
    exact clone_ok mixed cloC cloG
  · have : (f == cloI) = false := by simpa using e
    simp [this] at h
end Go.Proofs.Ytchjpboiebdabaa.Pv
