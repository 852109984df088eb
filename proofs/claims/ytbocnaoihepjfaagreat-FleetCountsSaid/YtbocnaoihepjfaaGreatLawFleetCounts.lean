/- The statement FleetCountsSaid: for every input the law law19.FleetCounts answers true, and each argument reads as it read. No condition. -/
import Derived.Test.YtbocnaoihepjfaaGreatRows
import Derived.Test.YtbocnaoihepjfaaGreatBothC
import Derived.WalkKit
import Derived.ProofKit
import Derived.OpenShut
import Derived.ShutString
import Derived.ChangeOld
import Derived.Below
import Derived.SizedLaws
import Derived.KernelRfl
set_option linter.unusedVariables false
namespace Go.Proofs.YtbocnaoihepjfaaGreat.fleetCounts
open Go Go.ChangeShapes Go.WideShapes Go.ChangeAt Go.RowKit Go.Pev
open Go.ChangeMaps (open_string shut_string)
theorem own : ownKnob Tryz.prog.godebug = none := by kernel_rfl
theorem laidOut : laidOutB Tryz.prog = true := by kernel_rfl
def tys : List TypeId := [24, 27, 25]
theorem hev (xs : List V) (h : ArgsFit Tryz.prog 8 tys xs) : ∃ n h c, run Pv.cfg n 4 xs [] 0 = some (.t (.b true), h, c) := by
  obtain ⟨hp, c, hr⟩ := Pv.fleetCounts_ev xs h
  obtain ⟨n, hn⟩ := (runL_iff _).1 hr
  exact ⟨n, hp, c, hn⟩
set_option maxRecDepth 100000 in
theorem lifted (os : Os) (started : os.Started) (H : Type) (enc : TypeId × Value → H) :
    ReturnsInHanded {} Tryz.checked os 4 .any (Rows.fleetCountsSpec.pre6 enc Tryz.prog Tryz.f4 Rows.fleetCountsRow.domain false) (Rows.fleetCountsSpec.post enc Tryz.prog Tryz.f4 false true false false) := by
  refine returnsInHanded_of_change_sized (C := Tryz.checked) own started (by kernel_rfl) Tryz.func4
    (ChangeSpec.witness6 (enc := enc) (C := Tryz.checked) false ⟨#[], (tys.map fun t => ((Tryz.prog.info? t).bind (·.zero)).getD undef).toArray, []⟩ 8 (by kernel_rfl) (by kernel_rfl) (by kernel_rfl) (by kernel_rfl)) ?_
  intro W base args ds gs before hval0 hW hcnd hsz0 _
  have hsz : (DataW.weightsEach Tryz.prog (Tryz.f4.params.toList ++ Rows.fleetCountsSpec.plain.varTypes Tryz.prog) (ds ++ gs)).all (· ≤ reachBytes) = true := hsz0
  have hval : ∀ (j : Nat) t v, Tryz.f4.params[j]? = some t → args[j]? = some v → Value.okWide Tryz.prog W .any base t v := hval0
  have hW' := hW
  obtain ⟨p, q, hA0, hV, rfl, hfz, hnd⟩ := hW
  have hA : DataW.TrodAll enc Tryz.prog W 0 (fun _ => true) true Tryz.f4.params.toList args.toList ds p := hA0
  rw [Tryz.params4] at hA hval hsz
  obtain ⟨rfl, rfl⟩ := trodVars_none hV
  have hA2 : DataW.TrodAll enc Tryz.prog W 0 (fun _ => true) true tys args.toList ds p := hA
  have hsz2 : (DataW.weightsEach Tryz.prog tys ds).all (· ≤ reachBytes) = true := by
    have e : ds ++ [] = ds := List.append_nil ds
    rw [e] at hsz
    exact hsz
  refine (law_calls (k := 8) (base := base) (r := .any) Pv.cfg_ok laidOut (ts := tys) (by kernel_rfl) (by unfold tys; simp only [List.forall_mem_cons]; exact ⟨⟨by kernel_rfl, of_decide_eq_true (by kernel_rfl)⟩, ⟨by kernel_rfl, of_decide_eq_true (by kernel_rfl)⟩, ⟨by kernel_rfl, of_decide_eq_true (by kernel_rfl)⟩, (by simp)⟩) hev hA2 (fun j t v ht hv => hval j t v (by simpa [tys] using ht) hv) hsz2).mono fun e W' ⟨he, bel, ps', hT⟩ => ?_
  subst he
  obtain ⟨v0, vs0, d0, ds0, p0, q0, hargs, rfl, rfl, h0, r0⟩ := trodAll_cons hA
  obtain ⟨v1, vs1, d1, ds1, p1, q1, rfl, rfl, rfl, h1, r1⟩ := trodAll_cons r0
  obtain ⟨v2, vs2, d2, ds2, p2, q2, rfl, rfl, rfl, h2, r2⟩ := trodAll_cons r1
  obtain ⟨rfl, rfl, rfl⟩ := trodAll_nil r2
  obtain rfl : args = #[v0, v1, v2] := by cases args; simp_all
  exact ⟨_, rfl, _, _, _, [], _, [], hW', trodAll_mk1 (shut_bool (Tryz.underlying4) _), hT, rfl, bel.frame _, fun h => by cases h⟩
theorem over : Rows.fleetCountsRow.holds Tryz.pinned (OpenSpec.ofChange Rows.fleetCountsSpec) :=
  OpenClaim.holds_of_wide 4 Tryz.f4 rfl rfl rfl rfl rfl rfl rfl ⟨rfl, rfl, rfl, rfl, rfl⟩ rfl rfl rfl rfl rfl (by kernel_rfl) Tryz.func4 (by kernel_rfl)
    (of_decide_eq_true (by kernel_rfl)) (by unfold Func.isWrapper; first | (rw [if_pos (by decide +kernel)]; kernel_rfl) | (rw [if_neg (by decide +kernel)]; exact ⟨rfl, rfl⟩))
    (fun os started H enc _ => lifted os started H enc)
theorem proved : Rows.FleetCountsSaid := over
#print axioms proved
end Go.Proofs.YtbocnaoihepjfaaGreat.fleetCounts
namespace Go.Proofs.YtbocnaoihepjfaaGreat
/-- The row, under a short name, for the claim. -/
theorem fleetCounts_holds : Rows.FleetCountsSaid := fleetCounts.proved
end Go.Proofs.YtbocnaoihepjfaaGreat
