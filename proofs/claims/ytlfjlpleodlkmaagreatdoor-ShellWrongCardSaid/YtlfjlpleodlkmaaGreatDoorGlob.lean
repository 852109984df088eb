/- What is known of the program's variables, all along: the cells that strings.Split, strconv.Itoa and Atoi read. -/
import Derived.Below
import Derived.Lib.ItoaNum
namespace Go.Pev
open Go
def globB : Nat → Prop := fun g => g = 0 ∨ g = 3 ∨ g = 4 ∨ g = 5
def globOk : World → Prop := fun w => (∃ m, w.cell? ⟨0, 0, none⟩ = some (.int .i64 m)) ∧ (∃ a b, w.heap[3]? = some (.cells (Lib.pow10Tab.map fun z => Value.int .u64 z).toArray a b)) ∧
  (∃ t p, w.cell? ⟨4, 0, none⟩ = some (.iface t p)) ∧ ∃ t p, w.cell? ⟨5, 0, none⟩ = some (.iface t p)
theorem globOk.keep {w w' : World} (h : globOk w) (hk : ∀ g, globB g → w'.heap[g]? = w.heap[g]?) : globOk w' := by
  have e0 := hk 0 (.inl rfl)
  have e3 := hk 3 (.inr (.inl rfl))
  have e4 := hk 4 (.inr (.inr (.inl rfl)))
  have e5 := hk 5 (.inr (.inr (.inr rfl)))
  obtain ⟨h0, h3, h4, h5⟩ := h
  refine ⟨?_, ?_, ?_, ?_⟩
  · simpa only [World.cell?, e0] using h0
  · rw [e3]; exact h3
  · simpa only [World.cell?, e4] using h4
  · simpa only [World.cell?, e5] using h5
end Go.Pev
