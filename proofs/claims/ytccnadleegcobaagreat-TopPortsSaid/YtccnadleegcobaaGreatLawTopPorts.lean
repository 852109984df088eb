/- The statement TopPortsSaid: for every input the law top.TopPorts answers true, and each argument reads as it read. No condition. -/
import Derived.Test.YtccnadleegcobaaGreatRows
import Derived.Test.YtccnadleegcobaaGreatTopB
import Derived.WalkKit
import Derived.ProofKit
import Derived.OpenShut
import Derived.ShutString
import Derived.ChangeOld
import Derived.Below
import Derived.SizedLaws
import Derived.KernelRfl
set_option linter.unusedVariables false
namespace Go.Proofs.YtccnadleegcobaaGreat.topPorts
open Go Go.ChangeShapes Go.WideShapes Go.ChangeAt Go.RowKit Go.Pev
open Go.ChangeMaps (open_string shut_string)
theorem own : ownKnob Tryz.prog.godebug = none := by kernel_rfl
theorem laidOut : laidOutB Tryz.prog = true := by kernel_rfl
def tys : List TypeId := [24, 3, 5, 25]
theorem hev (xs : List V) (h : ArgsFit Tryz.prog 8 tys xs) : ∃ n h c, run Pv.cfg n 3 xs [] 0 = some (.t (.b true), h, c) := by
  obtain ⟨hp, c, hr⟩ := Pv.topPorts_ev xs h
  obtain ⟨n, hn⟩ := (runL_iff _).1 hr
  exact ⟨n, hp, c, hn⟩
set_option maxRecDepth 100000 in
theorem lifted (os : Os) (started : os.Started) (H : Type) (enc : TypeId × Value → H) :
    ReturnsInHanded {} Tryz.checked os 3 .any (Rows.topPortsSpec.pre6 enc Tryz.prog Tryz.f3 Rows.topPortsRow.domain false) (Rows.topPortsSpec.post enc Tryz.prog Tryz.f3 false true false false) := by
  refine returnsInHanded_of_change_sized (C := Tryz.checked) own started (by kernel_rfl) Tryz.func3
    (ChangeSpec.witness6 (enc := enc) (C := Tryz.checked) false ⟨#[], (tys.map fun t => ((Tryz.prog.info? t).bind (·.zero)).getD undef).toArray, []⟩ 8 (by kernel_rfl) (by kernel_rfl) (by kernel_rfl) (by kernel_rfl)) ?_
  intro W base args ds gs before hval0 hW hcnd hsz0 _
  have hsz : (DataW.weightsEach Tryz.prog (Tryz.f3.params.toList ++ Rows.topPortsSpec.plain.varTypes Tryz.prog) (ds ++ gs)).all (· ≤ reachBytes) = true := hsz0
  have hval : ∀ (j : Nat) t v, Tryz.f3.params[j]? = some t → args[j]? = some v → Value.okWide Tryz.prog W .any base t v := hval0
  have hW' := hW
  obtain ⟨p, q, hA0, hV, rfl, hfz, hnd⟩ := hW
  have hA : DataW.TrodAll enc Tryz.prog W 0 (fun _ => true) true Tryz.f3.params.toList args.toList ds p := hA0
  rw [Tryz.params3] at hA hval hsz
  obtain ⟨rfl, rfl⟩ := trodVars_none hV
  have hA2 : DataW.TrodAll enc Tryz.prog W 0 (fun _ => true) true tys args.toList ds p := hA
  have hsz2 : (DataW.weightsEach Tryz.prog tys ds).all (· ≤ reachBytes) = true := by
    have e : ds ++ [] = ds := List.append_nil ds
    rw [e] at hsz
    exact hsz
  refine (law_calls (k := 8) (base := base) (r := .any) Pv.cfg_ok laidOut (ts := tys) (by kernel_rfl) (by unfold tys; simp only [List.forall_mem_cons]; exact ⟨⟨by kernel_rfl, of_decide_eq_true (by kernel_rfl)⟩, ⟨by kernel_rfl, of_decide_eq_true (by kernel_rfl)⟩, ⟨by kernel_rfl, of_decide_eq_true (by kernel_rfl)⟩, ⟨by kernel_rfl, of_decide_eq_true (by kernel_rfl)⟩, (by simp)⟩) hev hA2 (fun j t v ht hv => hval j t v (by simpa [tys] using ht) hv) hsz2).mono fun e W' ⟨he, bel, ps', hT⟩ => ?_
  subst he
  obtain ⟨v0, vs0, d0, ds0, p0, q0, hargs, rfl, rfl, h0, r0⟩ := trodAll_cons hA
  obtain ⟨v1, vs1, d1, ds1, p1, q1, rfl, rfl, rfl, h1, r1⟩ := trodAll_cons r0
  obtain ⟨v2, vs2, d2, ds2, p2, q2, rfl, rfl, rfl, h2, r2⟩ := trodAll_cons r1
  obtain ⟨v3, vs3, d3, ds3, p3, q3, rfl, rfl, rfl, h3, r3⟩ := trodAll_cons r2
  obtain ⟨rfl, rfl, rfl⟩ := trodAll_nil r3
  obtain rfl : args = #[v0, v1, v2, v3] := by cases args; simp_all
  exact ⟨_, rfl, _, _, _, [], _, [], hW', trodAll_mk1 (shut_bool (Tryz.underlying4) _), hT, rfl, bel.frame _, fun h => by cases h⟩
theorem over : Rows.topPortsRow.holds Tryz.pinned (OpenSpec.ofChange Rows.topPortsSpec) :=
  OpenClaim.holds_of_wide 3 Tryz.f3 rfl rfl rfl rfl rfl rfl rfl ⟨rfl, rfl, rfl, rfl, rfl⟩ rfl rfl rfl rfl rfl (by kernel_rfl) Tryz.func3 (by kernel_rfl)
    (of_decide_eq_true (by kernel_rfl)) (by unfold Func.isWrapper; first | (rw [if_pos (by decide +kernel)]; kernel_rfl) | (rw [if_neg (by decide +kernel)]; exact ⟨rfl, rfl⟩))
    (fun os started H enc _ => lifted os started H enc)
theorem proved : Rows.TopPortsSaid := over
#print axioms proved
end Go.Proofs.YtccnadleegcobaaGreat.topPorts
namespace Go.Proofs.YtccnadleegcobaaGreat
/-- The row, under a short name, for the claim. -/
theorem topPorts_holds : Rows.TopPortsSaid := topPorts.proved
end Go.Proofs.YtccnadleegcobaaGreat
