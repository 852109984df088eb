/- What the arguments of these laws are. -/
import Derived.Test.YtccnadleegcobaaPevC
import Derived.Test.YtccnadleegcobaaBase
set_option linter.unusedVariables false
set_option maxRecDepth 100000
set_option linter.unusedSimpArgs false
namespace Go.Proofs.Ytccnadleegcobaa.Pv
open Go Go.Pev

noncomputable abbrev PP : Program := Go.Proofs.Try.prog
theorem u_int : PP.underlying 3 = some (.int .i64) := by kernel_rfl
theorem u_ints : PP.underlying 26 = some (.slice 3) := by kernel_rfl

def I64 (n : Int) : Prop := -9223372036854775808 ≤ n ∧ n ≤ 9223372036854775807
theorem i64_wf {n : Int} (h : (Lit.int .i64 n).wf = true) : I64 n := by
  simp only [Lit.wf, Bool.and_eq_true, decide_eq_true_eq] at h
  have h1 : IntKind.i64.min = -9223372036854775808 := by decide
  have h2 : IntKind.i64.max = 9223372036854775807 := by decide
  exact ⟨by omega, by omega⟩
theorem f_int {k : Nat} (c : List T) (h : Fits PP (k + 1) 3 c) : ∃ m : Int, c = [.i .i64 m] ∧ I64 m := by
  obtain ⟨m, rfl, hw⟩ := fits_int u_int h
  exact ⟨m, rfl, i64_wf hw⟩
theorem f_ints {k : Nat} (c : List T) (h : Fits PP (k + 2) 26 c) : ∃ l : List Int, c = [il l] ∧ ∀ n ∈ l, I64 n := by
  obtain ⟨l, rfl, _, hw⟩ := fits_slice (mk := fun n : Int => [.i .i64 n]) (Q := I64) u_ints f_int h
  exact ⟨l, rfl, hw⟩
theorem a_int {k : Nat} {x : V} (h : ArgFit PP (k + 1) 3 x) : ∃ m : Int, x = iv m ∧ I64 m := by
  obtain ⟨m, rfl, hw⟩ := argFit_int u_int h
  exact ⟨m, rfl, i64_wf hw⟩
theorem a_ints {k : Nat} {x : V} (h : ArgFit PP (k + 2) 26 x) : ∃ l : List Int, x = .t (il l) ∧ ∀ n ∈ l, I64 n := by
  obtain ⟨l, rfl, _, hw⟩ := argFit_slice (mk := fun n : Int => [.i .i64 n]) (Q := I64) u_ints f_int h
  exact ⟨l, rfl, hw⟩
end Go.Proofs.Ytccnadleegcobaa.Pv
