/- The statement ShellLinesCardSaid: for every input the law law20.ShellLines answers true, and each argument reads as it read; the variables that the row lists hold what the program's text lays. No further condition. -/
import Derived.Test.YtlfjlpleodlkmaaGreatDoorLaidG
import Derived.Test.YtlfjlpleodlkmaaGreatDoorTie
import Derived.Test.YtlfjlpleodlkmaaGreatDoorCards
import Derived.Test.YtlfjlpleodlkmaaGreatDoorEn6
import Derived.WalkKit
import Derived.ProofKit
import Derived.OpenShut
import Derived.ShutString
import Derived.ChangeOld
import Derived.Below
import Derived.SizedLaws
import Derived.SevenTiedAt
import Derived.KernelRfl
set_option linter.unusedVariables false
namespace Go.Proofs.YtlfjlpleodlkmaaGreatDoor.shellLines
open Go Go.ChangeShapes Go.WideShapes Go.ChangeAt Go.RowKit Go.Pev
open Go.ChangeMaps (open_string shut_string)
theorem own : ownKnob Tryz.prog.godebug = none := by kernel_rfl
theorem laidOut : laidOutB Tryz.prog = true := by kernel_rfl
def tys : List TypeId := [9]
theorem hev (xs : List V) (h : ArgsFit Tryz.prog 8 tys xs) : ∃ n h c, run Pv.cfg n 5 xs [] 0 = some (.t (.b true), h, c) := by
  obtain ⟨hp, c, hr⟩ := Pv.shellLines_ev xs h
  obtain ⟨n, hn⟩ := (runL_iff _).1 hr
  exact ⟨n, hp, c, hn⟩
noncomputable def args0 : Array Value := #[.string ByteArray.empty]
theorem laid_eq : Rows.shellLinesRow.laid = laidL := rfl
set_option maxRecDepth 100000 in
theorem witness (os : Os) {H : Type} (enc : TypeId × Value → H) : ∃ (w : World) (tape : Tape) (i : Input), w.os = os ∧ (w.forCall tape i).Shaped Tryz.prog ∧ i.vars = [] ∧ Input.okWide Tryz.prog (w.forCall tape i) .any w.heap.size 5 i ∧
    (OpenSpec.ofChange Rows.shellLinesSpec).preRow enc Tryz.prog Tryz.f5 Rows.shellLinesRow.domain false Rows.shellLinesRow.laid (w.forCall tape i).memory i.args ∧ ({} : Assume).holds Tryz.prog (lone (Frame.enter Tryz.prog 5 i.args .normal) [] (w.forCall tape i)) :=
  ChangeSpec.witness_shaped (enc := enc) (C := Tryz.checked) (s := Rows.shellLinesSpec) (os := os) (X := fun w _ => laidMetH Tryz.prog Rows.shellLinesRow.laid w) false (World.laidAll Tryz.prog os Rows.shellLinesRow.laid) args0 8 (World.laidAll_os _ _ _)
    (World.shaped_of_ZipB (by kernel_rfl) (by kernel_rfl)) (by kernel_rfl) (by kernel_rfl) (by kernel_rfl)
    (by rw [MakeChecks.laidMetH_plain _ _ _ (by kernel_rfl)]; exact laidMet_laidAll _ (by kernel_rfl) (by kernel_rfl))
set_option maxRecDepth 100000 in
theorem lifted (os : Os) (started : os.Started) (H : Type) (enc : TypeId × Value → H) (F : Stop.Interp) :
    ReturnsInHanded {} Tryz.checked os 5 .any ((OpenSpec.ofChange Rows.shellLinesSpec).preRow enc Tryz.prog Tryz.f5 Rows.shellLinesRow.domain false Rows.shellLinesRow.laid) (((OpenSpec.ofChange Rows.shellLinesSpec).at F).post enc Tryz.prog Tryz.f5 false true false false) := by
  refine returnsInHanded_of_row (C := Tryz.checked) (s := OpenSpec.ofChange Rows.shellLinesSpec) own started (by kernel_rfl) Tryz.func5 (witness os enc) ?_
  intro W base args ds gs before hval0 hW hcnd _ hsz0 hL hsh _
  have hsz : (DataW.weightsEach Tryz.prog (Tryz.f5.params.toList ++ Rows.shellLinesSpec.plain.varTypes Tryz.prog) (ds ++ gs)).all (· ≤ reachBytes) = true := hsz0
  have hval : ∀ (j : Nat) t v, Tryz.f5.params[j]? = some t → args[j]? = some v → Value.okWide Tryz.prog W .any base t v := hval0
  have hW' := hW
  obtain ⟨p, q, hA0, hV, rfl, hfz, hnd⟩ := hW
  have hA : DataW.TrodAll enc Tryz.prog W 0 (fun _ => true) true Tryz.f5.params.toList args.toList ds p := hA0
  rw [Tryz.params5] at hA hval hsz
  obtain ⟨rfl, rfl⟩ := trodVars_none hV
  have hA2 : DataW.TrodAll enc Tryz.prog W 0 (fun _ => true) true tys args.toList ds p := hA
  have hsz2 : (DataW.weightsEach Tryz.prog tys ds).all (· ≤ reachBytes) = true := by
    have e : ds ++ [] = ds := List.append_nil ds
    rw [e] at hsz
    exact hsz
  refine (law_calls (k := 8) (base := base) (r := .any) Pv.cfg_ok laidOut (ts := tys) (by kernel_rfl) (by unfold tys; simp only [List.forall_mem_cons]; exact ⟨⟨by kernel_rfl, of_decide_eq_true (by kernel_rfl)⟩, (by simp)⟩) hev hA2 (fun j t v ht hv => hval j t v (by simpa [tys] using ht) hv) hsz2 (gl_of (laid_eq ▸ hL) hsh)).mono fun e W' ⟨he, bel, ps', hT⟩ => ?_
  subst he
  obtain ⟨v0, vs0, d0, ds0, p0, q0, hargs, rfl, rfl, h0, r0⟩ := trodAll_cons hA
  obtain ⟨rfl, rfl, rfl⟩ := trodAll_nil r0
  obtain rfl : args = #[v0] := by cases args; simp_all
  exact ⟨_, rfl, _, _, _, [], _, [], hW', trodAll_mk1 (shut_bool (Tryz.underlying4) _), hT, rfl, bel.frame _, fun h => by cases h⟩
theorem over : Rows.ShellLinesSaid :=
  OpenClaim.holds_of_cond 5 Tryz.f5 rfl rfl rfl rfl rfl rfl rfl ⟨rfl, rfl, rfl, rfl, rfl⟩ rfl rfl rfl rfl rfl (by kernel_rfl) Tryz.func5 (by kernel_rfl)
    (of_decide_eq_true (by kernel_rfl)) (by unfold Func.isWrapper; first | (rw [if_pos (by decide +kernel)]; kernel_rfl) | (rw [if_neg (by decide +kernel)]; exact ⟨rfl, rfl⟩))
    (fun os started H enc _ F0 => by rw [OpenClaim.pre_eq_preRow]; exact lifted os started H enc F0)
theorem card : Rows.ShellLinesCardSaid :=
  Claim7.holds_tied_plain_at .later [] [.data, .data, .data, .data, .sentinel, .sentinel, .pinned] true (true, "3ef4d59dd483027e971385723fb7099d9012283faa601e3fd49c937257012f3b") true over (fun _ h => by cases h) (by kernel_rfl) (fun _ h => by cases h) shellLines_row_tie rfl ⟨rfl, rfl⟩ (by kernel_rfl) rfl
    (fun f fn hf hfn => by
      obtain rfl : f = 5 := Option.some.inj ((show Tryz.prog.funcNamed "switchboard/switchboardlaw20.ShellLines" = some 5 by kernel_rfl).symm.trans hf) |>.symm
      obtain rfl : fn = Tryz.f5 := (Option.some.inj (Tryz.func5.symm.trans hfn)).symm
      exact ⟨by kernel_rfl, fun j t ht => by
        rw [Tryz.params5] at ht
        have hm : t ∈ [9] := by simpa using Array.mem_of_getElem? ht
        have hall : ([9].all fun u => !Tryz.prog.wantsStandIn u) = true := by kernel_rfl
        exact (show Tryz.prog.wantsStandIn t = false by simpa using List.all_eq_true.1 hall t hm)⟩)
    (by kernel_rfl)
#print axioms card
end Go.Proofs.YtlfjlpleodlkmaaGreatDoor.shellLines
namespace Go.Proofs.YtlfjlpleodlkmaaGreatDoor
/-- The card, under a short name, for the claim. -/
theorem shellLines_holds : Rows.ShellLinesCardSaid := shellLines.card
end Go.Proofs.YtlfjlpleodlkmaaGreatDoor
