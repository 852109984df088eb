/- The statement ShellLostCardSaid: for every input the law law20.ShellLost answers true, and each argument reads as it read; the variables that the row lists hold what the program's text lays. No further condition. -/
import Derived.Test.YtlfjlpleodlkmaaGreatDoorLaidG
import Derived.Test.YtlfjlpleodlkmaaGreatDoorTie
import Derived.Test.YtlfjlpleodlkmaaGreatDoorCards
import Derived.Test.YtlfjlpleodlkmaaGreatDoorEn7
import Derived.WalkKit
import Derived.ProofKit
import Derived.OpenShut
import Derived.ShutString
import Derived.ChangeOld
import Derived.Below
import Derived.SizedLaws
import Derived.SevenTiedAt
import Derived.KernelRfl
set_option linter.unusedVariables false
namespace Go.Proofs.YtlfjlpleodlkmaaGreatDoor.shellLost
open Go Go.ChangeShapes Go.WideShapes Go.ChangeAt Go.RowKit Go.Pev
open Go.ChangeMaps (open_string shut_string)
theorem own : ownKnob Tryz.prog.godebug = none := by kernel_rfl
theorem laidOut : laidOutB Tryz.prog = true := by kernel_rfl
def tys : List TypeId := [5]
theorem hev (xs : List V) (h : ArgsFit Tryz.prog 8 tys xs) : ∃ n h c, run Pv.cfg n 8 xs [] 0 = some (.t (.b true), h, c) := by
  obtain ⟨hp, c, hr⟩ := Pv.shellLost_ev xs h
  obtain ⟨n, hn⟩ := (runL_iff _).1 hr
  exact ⟨n, hp, c, hn⟩
noncomputable def args0 : Array Value := #[.int .u8 0]
theorem laid_eq : Rows.shellLostRow.laid = laidL := rfl
set_option maxRecDepth 100000 in
theorem witness (os : Os) {H : Type} (enc : TypeId × Value → H) : ∃ (w : World) (tape : Tape) (i : Input), w.os = os ∧ (w.forCall tape i).Shaped Tryz.prog ∧ i.vars = [] ∧ Input.okWide Tryz.prog (w.forCall tape i) .any w.heap.size 8 i ∧
    (OpenSpec.ofChange Rows.shellLostSpec).preRow enc Tryz.prog Tryz.f8 Rows.shellLostRow.domain false Rows.shellLostRow.laid (w.forCall tape i).memory i.args ∧ ({} : Assume).holds Tryz.prog (lone (Frame.enter Tryz.prog 8 i.args .normal) [] (w.forCall tape i)) :=
  ChangeSpec.witness_shaped (enc := enc) (C := Tryz.checked) (s := Rows.shellLostSpec) (os := os) (X := fun w _ => laidMetH Tryz.prog Rows.shellLostRow.laid w) false (World.laidAll Tryz.prog os Rows.shellLostRow.laid) args0 8 (World.laidAll_os _ _ _)
    (World.shaped_of_ZipB (by kernel_rfl) (by kernel_rfl)) (by kernel_rfl) (by kernel_rfl) (by kernel_rfl)
    (by rw [MakeChecks.laidMetH_plain _ _ _ (by kernel_rfl)]; exact laidMet_laidAll _ (by kernel_rfl) (by kernel_rfl))
set_option maxRecDepth 100000 in
theorem lifted (os : Os) (started : os.Started) (H : Type) (enc : TypeId × Value → H) (F : Stop.Interp) :
    ReturnsInHanded {} Tryz.checked os 8 .any ((OpenSpec.ofChange Rows.shellLostSpec).preRow enc Tryz.prog Tryz.f8 Rows.shellLostRow.domain false Rows.shellLostRow.laid) (((OpenSpec.ofChange Rows.shellLostSpec).at F).post enc Tryz.prog Tryz.f8 false true false false) := by
  refine returnsInHanded_of_row (C := Tryz.checked) (s := OpenSpec.ofChange Rows.shellLostSpec) own started (by kernel_rfl) Tryz.func8 (witness os enc) ?_
  intro W base args ds gs before hval0 hW hcnd _ hsz0 hL hsh _
  have hsz : (DataW.weightsEach Tryz.prog (Tryz.f8.params.toList ++ Rows.shellLostSpec.plain.varTypes Tryz.prog) (ds ++ gs)).all (· ≤ reachBytes) = true := hsz0
  have hval : ∀ (j : Nat) t v, Tryz.f8.params[j]? = some t → args[j]? = some v → Value.okWide Tryz.prog W .any base t v := hval0
  have hW' := hW
  obtain ⟨p, q, hA0, hV, rfl, hfz, hnd⟩ := hW
  have hA : DataW.TrodAll enc Tryz.prog W 0 (fun _ => true) true Tryz.f8.params.toList args.toList ds p := hA0
  rw [Tryz.params8] at hA hval hsz
  obtain ⟨rfl, rfl⟩ := trodVars_none hV
  have hA2 : DataW.TrodAll enc Tryz.prog W 0 (fun _ => true) true tys args.toList ds p := hA
  have hsz2 : (DataW.weightsEach Tryz.prog tys ds).all (· ≤ reachBytes) = true := by
    have e : ds ++ [] = ds := List.append_nil ds
    rw [e] at hsz
    exact hsz
  refine (law_calls (k := 8) (base := base) (r := .any) Pv.cfg_ok laidOut (ts := tys) (by kernel_rfl) (by unfold tys; simp only [List.forall_mem_cons]; exact ⟨⟨by kernel_rfl, of_decide_eq_true (by kernel_rfl)⟩, (by simp)⟩) hev hA2 (fun j t v ht hv => hval j t v (by simpa [tys] using ht) hv) hsz2 (gl_of (laid_eq ▸ hL) hsh)).mono fun e W' ⟨he, bel, ps', hT⟩ => ?_
  subst he
  obtain ⟨v0, vs0, d0, ds0, p0, q0, hargs, rfl, rfl, h0, r0⟩ := trodAll_cons hA
  obtain ⟨rfl, rfl, rfl⟩ := trodAll_nil r0
  obtain rfl : args = #[v0] := by cases args; simp_all
  exact ⟨_, rfl, _, _, _, [], _, [], hW', trodAll_mk1 (shut_bool (Tryz.underlying4) _), hT, rfl, bel.frame _, fun h => by cases h⟩
theorem over : Rows.ShellLostSaid :=
  OpenClaim.holds_of_cond 8 Tryz.f8 rfl rfl rfl rfl rfl rfl rfl ⟨rfl, rfl, rfl, rfl, rfl⟩ rfl rfl rfl rfl rfl (by kernel_rfl) Tryz.func8 (by kernel_rfl)
    (of_decide_eq_true (by kernel_rfl)) (by unfold Func.isWrapper; first | (rw [if_pos (by decide +kernel)]; kernel_rfl) | (rw [if_neg (by decide +kernel)]; exact ⟨rfl, rfl⟩))
    (fun os started H enc _ F0 => by rw [OpenClaim.pre_eq_preRow]; exact lifted os started H enc F0)
theorem card : Rows.ShellLostCardSaid :=
  Claim7.holds_tied_plain_at .later [] [.data, .data, .data, .data, .sentinel, .sentinel, .pinned] true (true, "3ef4d59dd483027e971385723fb7099d9012283faa601e3fd49c937257012f3b") true over (fun _ h => by cases h) (by kernel_rfl) (fun _ h => by cases h) shellLost_row_tie rfl ⟨rfl, rfl⟩ (by kernel_rfl) rfl
    (fun f fn hf hfn => by
      obtain rfl : f = 8 := Option.some.inj ((show Tryz.prog.funcNamed "switchboard/switchboardlaw20.ShellLost" = some 8 by kernel_rfl).symm.trans hf) |>.symm
      obtain rfl : fn = Tryz.f8 := (Option.some.inj (Tryz.func8.symm.trans hfn)).symm
      exact ⟨by kernel_rfl, fun j t ht => by
        rw [Tryz.params8] at ht
        have hm : t ∈ [5] := by simpa using Array.mem_of_getElem? ht
        have hall : ([5].all fun u => !Tryz.prog.wantsStandIn u) = true := by kernel_rfl
        exact (show Tryz.prog.wantsStandIn t = false by simpa using List.all_eq_true.1 hall t hm)⟩)
    (by kernel_rfl)
#print axioms card
end Go.Proofs.YtlfjlpleodlkmaaGreatDoor.shellLost
namespace Go.Proofs.YtlfjlpleodlkmaaGreatDoor
/-- The card, under a short name, for the claim. -/
theorem shellLost_holds : Rows.ShellLostCardSaid := shellLost.card
end Go.Proofs.YtlfjlpleodlkmaaGreatDoor
