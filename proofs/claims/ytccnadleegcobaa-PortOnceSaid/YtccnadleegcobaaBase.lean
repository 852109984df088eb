/- Rows of numbers. -/
import Derived.Test.YtccnadleegcobaaCfg
set_option linter.unusedVariables false
set_option linter.unusedSimpArgs false
namespace Go.Proofs.Ytccnadleegcobaa.Pv
open Go Go.Pev
/-- The cells of a row of numbers. -/
def cl (m : List Int) : List (List T) := m.map fun n => [.i .i64 n]
theorem cl_one (l : List Int) : ∀ c ∈ cl l, c.length = 1 := by
  intro c hc
  obtain ⟨n, _, rfl⟩ := List.mem_map.1 hc
  rfl

theorem cl_flat (l : List Int) : ((cl l).all fun c => c.all flatT) = true := by
  rw [List.all_eq_true]
  intro c hc
  obtain ⟨n, _, rfl⟩ := List.mem_map.1 hc
  rfl

/-- Rows of numbers. -/
def gl (h : List (List Int)) : T := .l (h.map fun r => [.l (r.map fun n => [.i .i64 n])])
end Go.Proofs.Ytccnadleegcobaa.Pv
