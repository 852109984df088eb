/- What the listed variables, and the world's shape, tell of the program's variables: as the evaluator wants it (globOk); a world in which they are laid. -/
import Derived.Test.YtlfjlpleodlkmaaGreatDoorRows
import Derived.Test.YtlfjlpleodlkmaaGreatDoorCfg
import Derived.ProofKit
import Derived.Lay
import Derived.MakeChecks
import Derived.Lib.LaidU8
import Derived.Shelf.Vars
import Derived.Deep.DeepHandedRow
import Derived.LaidMore
import Derived.KernelRfl
set_option linter.unusedVariables false
namespace Go.Proofs.YtlfjlpleodlkmaaGreatDoor
open Go Go.Lib

abbrev laidL : List (String × DataW Unit) := Rows.shellGoesRow.laid
theorem plainL : (laidL.all fun x => x.2.handleName?.isNone) = true := by kernel_rfl
theorem iface_cell {P : Program} {w : World} {base : Nat} {sp : Nat → Bool} {held : Bool} {H : Type} {enc : TypeId × Value → H} {fuel : Nat} {t : TypeId} {cs : List Value} {n : String} {d : DataW H} {p : List MemPlace} {ms : Array (String × TypeId)}
    (ht : P.underlying t = some (.interface ms)) (h : DataW.trod enc P w base sp held fuel t cs = some (.iface n d, p)) : ∃ u v, cs = [.iface u v] := by
  cases fuel with
  | zero => simp [DataW.trod] at h
  | succ fuel =>
    cases cs with
    | nil => simp [DataW.trod, ht] at h
    | cons c r =>
      cases r with
      | nil =>
        cases c
        case iface u v => exact ⟨u, v, rfl⟩
        all_goals simp [DataW.trod, ht] at h
      | cons c2 r => simp [DataW.trod, ht] at h
theorem g3 : Tryz.prog.globalNamed "internal/strconv.uint64pow10" = some 3 := by kernel_rfl
theorem g4 : Tryz.prog.globalNamed "strconv.ErrSyntax" = some 4 := by kernel_rfl
theorem g5 : Tryz.prog.globalNamed "strconv.ErrRange" = some 5 := by kernel_rfl
theorem t3 : (Tryz.prog.globals[3]?).map (·.type) = some 228 := by kernel_rfl
theorem t4 : (Tryz.prog.globals[4]?).map (·.type) = some 66 := by kernel_rfl
theorem t5 : (Tryz.prog.globals[5]?).map (·.type) = some 66 := by kernel_rfl
theorem errI : ∃ ms, Tryz.prog.underlying 66 = some (.interface ms) := ⟨_, Tryz.underlying66⟩
theorem pow_in : ("internal/strconv.uint64pow10", tabData .u64 pow10Tab) ∈ laidL := .tail _ (.tail _ (.head _))
theorem err_cell {W : World} (hL : laidMet Tryz.prog laidL W) {g : Nat} {n m : String} {d : DataW Unit} (hg : Tryz.prog.globalNamed n = some g) (ht : (Tryz.prog.globals[g]?).map (·.type) = some 66) (hm : (n, .iface m d) ∈ laidL) : ∃ u v, W.cell? ⟨g, 0, none⟩ = some (.iface u v) := by
  obtain ⟨g', t, cs, fuel, p, h1, h2, h3, h4⟩ := Lib.laidMet.reads hL hm
  obtain rfl := Option.some.inj (hg.symm.trans h1)
  obtain rfl := Option.some.inj (ht.symm.trans h2)
  obtain ⟨ms, hI⟩ := errI
  obtain ⟨u, v, hc⟩ := iface_cell hI h4
  refine ⟨u, v, ?_⟩
  rw [World.var?_cell hg h3 0]
  have : cs[0]? = cs.toList[0]? := by simp
  rw [this, hc]; rfl
theorem gl_of {W : World} (hL : laidMetH Tryz.prog laidL W) (hsh : W.ShapedOpen Tryz.prog) : (∀ g, Go.Pev.globB g → g < W.heap.size) ∧ Go.Pev.globOk W := by
  rw [MakeChecks.laidMetH_plain _ _ _ plainL] at hL
  obtain ⟨m, hm⟩ : ∃ m, W.cell? ⟨0, 0, none⟩ = some (.int .i64 m) := cell_of_shapedOpen_int (t := 3) (zero := #[.int .i64 0]) hsh (of_decide_eq_true (by kernel_rfl)) (by kernel_rfl) rfl (by kernel_rfl) (by kernel_rfl) (by kernel_rfl)
  obtain ⟨u4, v4, h4⟩ := err_cell hL g4 t4 (.tail _ (.tail _ (.tail _ (.tail _ (.tail _ (.head _))))))
  obtain ⟨u5, v5, h5⟩ := err_cell hL g5 t5 (.tail _ (.tail _ (.tail _ (.tail _ (.head _)))))
  have hP : ∃ a b, W.heap[3]? = some (.cells (pow10Tab.map fun z => Value.int .u64 z).toArray a b) := by
    obtain ⟨g', t, cs, fuel, p, h1, h2, h3, hr⟩ := Lib.laidMet.reads hL pow_in
    obtain rfl := Option.some.inj (g3.symm.trans h1)
    obtain rfl := Option.some.inj (t3.symm.trans h2)
    have hc := cells_of_tab (n := 20) (e := 202) (by kernel_rfl) (by kernel_rfl) (by kernel_rfl) (by kernel_rfl) hr
    unfold World.var? at h3
    rw [g3] at h3
    simp only [Option.bind_some] at h3
    split at h3
    · rename_i cs' a b e
      cases h3
      exact ⟨a, b, by rw [e, ← hc]⟩
    · cases h3
  have lt : ∀ g, (∃ v, W.cell? ⟨g, 0, none⟩ = some v) → g < W.heap.size := by
    rintro g ⟨v, hv⟩
    unfold World.cell? at hv
    cases hq : W.heap[g]? with
    | none => simp [hq] at hv
    | some ob => exact (Array.getElem?_eq_some_iff.1 hq).1
  refine ⟨?_, ⟨m, hm⟩, hP, ⟨u4, v4, h4⟩, u5, v5, h5⟩
  rintro g (rfl | rfl | rfl | rfl)
  · exact lt 0 ⟨_, hm⟩
  · obtain ⟨a, b, h⟩ := hP
    exact (Array.getElem?_eq_some_iff.1 h).1
  · exact lt 4 ⟨_, h4⟩
  · exact lt 5 ⟨_, h5⟩
end Go.Proofs.YtlfjlpleodlkmaaGreatDoor
