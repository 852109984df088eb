/- What the arguments of these laws are: numbers, strings. -/
import Derived.Test.YtfclnkhhabiheaaArgsI
set_option linter.unusedVariables false
set_option maxRecDepth 100000
set_option linter.unusedSimpArgs false
namespace Go.Proofs.Ytfclnkhhabiheaa.Pv
open Go Go.Pev

theorem u_u8 : PP.underlying 5 = some (.int .u8) := by kernel_rfl
theorem a_u8 {k : Nat} {x : V} (h : ArgFit PP (k + 1) 5 x) : ∃ m : Nat, x = .t (.i .u8 m) ∧ m ≤ 255 := by
  obtain ⟨m, rfl, hw⟩ := argFit_int u_u8 h
  simp only [Lit.wf, Bool.and_eq_true, decide_eq_true_eq] at hw
  have h1 : IntKind.u8.min = 0 := by decide
  have h2 : IntKind.u8.max = 255 := by decide
  exact ⟨m.toNat, by rw [Int.toNat_of_nonneg (by omega)], by omega⟩
theorem u_u16 : PP.underlying 72 = some (.int .u16) := by kernel_rfl
theorem a_u16 {k : Nat} {x : V} (h : ArgFit PP (k + 1) 72 x) : ∃ m : Nat, x = .t (.i .u16 m) ∧ m ≤ 65535 := by
  obtain ⟨m, rfl, hw⟩ := argFit_int u_u16 h
  simp only [Lit.wf, Bool.and_eq_true, decide_eq_true_eq] at hw
  have h1 : IntKind.u16.min = 0 := by decide
  have h2 : IntKind.u16.max = 65535 := by decide
  exact ⟨m.toNat, by rw [Int.toNat_of_nonneg (by omega)], by omega⟩
theorem u_u32 : PP.underlying 71 = some (.int .u32) := by kernel_rfl
theorem a_u32 {k : Nat} {x : V} (h : ArgFit PP (k + 1) 71 x) : ∃ m : Nat, x = .t (.i .u32 m) ∧ m ≤ 4294967295 := by
  obtain ⟨m, rfl, hw⟩ := argFit_int u_u32 h
  simp only [Lit.wf, Bool.and_eq_true, decide_eq_true_eq] at hw
  have h1 : IntKind.u32.min = 0 := by decide
  have h2 : IntKind.u32.max = 4294967295 := by decide
  exact ⟨m.toNat, by rw [Int.toNat_of_nonneg (by omega)], by omega⟩
theorem u_str : PP.underlying 9 = some .string := by kernel_rfl
theorem a_str {k : Nat} {x : V} (h : ArgFit PP (k + 1) 9 x) : ∃ s : List UInt8, x = .t (.s s) ∧ s.length ≤ reachBytes := argFit_string u_str h
theorem u_bool : PP.underlying 4 = some .bool := by kernel_rfl
theorem a_bool {k : Nat} {x : V} (h : ArgFit PP (k + 1) 4 x) : ∃ b : Bool, x = bv b := argFit_bool u_bool h
end Go.Proofs.Ytfclnkhhabiheaa.Pv
