/- The library's Sort of a row of numbers. -/
import Derived.Test.YtccnadleegcobaaBase
set_option linter.unusedVariables false
set_option linter.unusedSimpArgs false
namespace Go.Proofs.Ytccnadleegcobaa.Pv
open Go Go.Pev
theorem sort_call {l : List Int} {ty : Nat} {k : Key} (h0 : 0 < l.length) (hl : l.length ≤ 1000000) (s : St) (k' : Key) (hg : s.hp.get k = some (.row ty 1 (cl l) false)) : callEv cfg (runL cfg) 27 [.ow k 1 0 l.length] s k' = some (.tu [], s.hp.put k k (.row ty 1 (cl (srt l)) false), s.ck + 3) := by
  have hr : runL cfg 27 [.ow k 1 0 l.length] s.hp (s.ck + 1) = some (.tu [], s.hp.put k k (.row ty 1 (cl (srt l)) false), s.ck + 1 + 1) := by
    rw [runL_ex (p := sortP) rfl]
    unfold sortP
    have hi : intsOf (cl l) = some l := intsOf_map l
    have h1 : l.length = (cl l).length ∧ 0 < l.length ∧ l.length ≤ 140737488355328 := ⟨by simp [cl], h0, by omega⟩
    simp only [hg, hi, if_pos h1]
    rfl
  exact callEv_h rfl hr k'

end Go.Proofs.Ytccnadleegcobaa.Pv
