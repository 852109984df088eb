/- What the arguments of these laws are: maps. -/
import Derived.Test.YthkehbdljckbdaaArgsI
set_option linter.unusedVariables false
set_option maxRecDepth 100000
set_option linter.unusedSimpArgs false
namespace Go.Proofs.Ythkehbdljckbdaa.Pv
open Go Go.Pev
theorem u_intss : PP.underlying 22 = some (.slice 36) := by kernel_rfl
theorem u_map : structT PP 24 = some [3, 22] := by kernel_rfl
theorem f_intss {k : Nat} (c : List T) (h : Fits PP (k + 3) 22 c) : ∃ l : List (List Int), c = [gl l] ∧ ∀ r ∈ l, ∀ n ∈ r, I64 n := by
  obtain ⟨l, rfl, _, hw⟩ := fits_slice (mk := fun r : List Int => [il r]) (Q := fun r => ∀ n ∈ r, I64 n) u_intss f_ints h
  exact ⟨l, rfl, hw⟩
theorem a_map {k : Nat} {x : V} (h : ArgFit PP (k + 4) 24 x) : ∃ (e : Int) (h : List (List Int)), x = .ag [iv e, .t (gl h)] ∧ I64 e ∧ ∀ r ∈ h, ∀ n ∈ r, I64 n := by
  obtain ⟨ts, rfl, h0⟩ := argFit_struct u_map h
  obtain ⟨e, r1, rfl, he, h1⟩ := fitsT_cons f_int h0
  obtain ⟨l, r2, rfl, hl, h2⟩ := fitsT_cons f_intss h1
  cases h2
  exact ⟨e, l, rfl, he, hl⟩
end Go.Proofs.Ythkehbdljckbdaa.Pv
