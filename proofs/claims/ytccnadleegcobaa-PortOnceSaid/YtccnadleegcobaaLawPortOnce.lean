/- The statement PortOnceSaid: for every input the law law23.PortOnce answers true, and each argument reads as it read. No condition. -/
import Derived.Test.YtccnadleegcobaaRows
import Derived.Test.YtccnadleegcobaaLOnce2
import Derived.WalkKit
import Derived.ProofKit
import Derived.OpenShut
import Derived.ShutString
import Derived.ChangeOld
import Derived.Below
import Derived.SizedLaws
import Derived.KernelRfl
set_option linter.unusedVariables false
namespace Go.Proofs.Ytccnadleegcobaa.portOnce
open Go Go.ChangeShapes Go.WideShapes Go.ChangeAt Go.RowKit Go.Pev
open Go.ChangeMaps (open_string shut_string)
theorem own : ownKnob Try.prog.godebug = none := by kernel_rfl
theorem laidOut : laidOutB Try.prog = true := by kernel_rfl
def tys : List TypeId := [22]
theorem hev (xs : List V) (h : ArgsFit Try.prog 8 tys xs) : ∃ n h c, run Pv.cfg n 3 xs [] 0 = some (.t (.b true), h, c) := by
  obtain ⟨hp, c, hr⟩ := Pv.portOnce_ev xs h
  obtain ⟨n, hn⟩ := (runL_iff _).1 hr
  exact ⟨n, hp, c, hn⟩
set_option maxRecDepth 100000 in
theorem lifted (os : Os) (started : os.Started) (H : Type) (enc : TypeId × Value → H) :
    ReturnsInHanded {} Try.checked os 3 .any (Rows.portOnceSpec.pre6 enc Try.prog Try.f3 Rows.portOnceRow.domain false) (Rows.portOnceSpec.post enc Try.prog Try.f3 false true false false) := by
  refine returnsInHanded_of_change_sized (C := Try.checked) own started (by kernel_rfl) Try.func3
    (ChangeSpec.witness6 (enc := enc) (C := Try.checked) false ⟨#[], (tys.map fun t => ((Try.prog.info? t).bind (·.zero)).getD undef).toArray, []⟩ 8 (by kernel_rfl) (by kernel_rfl) (by kernel_rfl) (by kernel_rfl)) ?_
  intro W base args ds gs before hval0 hW hcnd hsz0 _
  have hsz : (DataW.weightsEach Try.prog (Try.f3.params.toList ++ Rows.portOnceSpec.plain.varTypes Try.prog) (ds ++ gs)).all (· ≤ reachBytes) = true := hsz0
  have hval : ∀ (j : Nat) t v, Try.f3.params[j]? = some t → args[j]? = some v → Value.okWide Try.prog W .any base t v := hval0
  have hW' := hW
  obtain ⟨p, q, hA0, hV, rfl, hfz, hnd⟩ := hW
  have hA : DataW.TrodAll enc Try.prog W 0 (fun _ => true) true Try.f3.params.toList args.toList ds p := hA0
  rw [Try.params3] at hA hval hsz
  obtain ⟨rfl, rfl⟩ := trodVars_none hV
  have hA2 : DataW.TrodAll enc Try.prog W 0 (fun _ => true) true tys args.toList ds p := hA
  have hsz2 : (DataW.weightsEach Try.prog tys ds).all (· ≤ reachBytes) = true := by
    have e : ds ++ [] = ds := List.append_nil ds
    rw [e] at hsz
    exact hsz
  refine (law_calls (k := 8) (base := base) (r := .any) Pv.cfg_ok laidOut (ts := tys) (by kernel_rfl) (by unfold tys; simp only [List.forall_mem_cons]; exact ⟨⟨by kernel_rfl, of_decide_eq_true (by kernel_rfl)⟩, (by simp)⟩) hev hA2 (fun j t v ht hv => hval j t v (by simpa [tys] using ht) hv) hsz2).mono fun e W' ⟨he, bel, ps', hT⟩ => ?_
  subst he
  obtain ⟨v0, vs0, d0, ds0, p0, q0, hargs, rfl, rfl, h0, r0⟩ := trodAll_cons hA
  obtain ⟨rfl, rfl, rfl⟩ := trodAll_nil r0
  obtain rfl : args = #[v0] := by cases args; simp_all
  exact ⟨_, rfl, _, _, _, [], _, [], hW', trodAll_mk1 (shut_bool (Try.underlying4) _), hT, rfl, bel.frame _, fun h => by cases h⟩
theorem over : Rows.portOnceRow.holds Try.pinned (OpenSpec.ofChange Rows.portOnceSpec) :=
  OpenClaim.holds_of_wide 3 Try.f3 rfl rfl rfl rfl rfl rfl rfl ⟨rfl, rfl, rfl, rfl, rfl⟩ rfl rfl rfl rfl rfl (by kernel_rfl) Try.func3 (by kernel_rfl)
    (of_decide_eq_true (by kernel_rfl)) (by unfold Func.isWrapper; first | (rw [if_pos (by decide +kernel)]; kernel_rfl) | (rw [if_neg (by decide +kernel)]; exact ⟨rfl, rfl⟩))
    (fun os started H enc _ => lifted os started H enc)
theorem proved : Rows.PortOnceSaid := over
#print axioms proved
end Go.Proofs.Ytccnadleegcobaa.portOnce
namespace Go.Proofs.Ytccnadleegcobaa
/-- The row, under a short name, for the claim. -/
theorem portOnce_holds : Rows.PortOnceSaid := portOnce.proved
end Go.Proofs.Ytccnadleegcobaa
