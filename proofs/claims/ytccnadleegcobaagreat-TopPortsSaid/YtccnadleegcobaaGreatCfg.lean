/- The functions of these laws, and that they are the program's. -/
import Derived.Test.YtccnadleegcobaaGreatPevC
import Derived.Test.YtccnadleegcobaaGreatLib
import Derived.Test.YtccnadleegcobaaGreatForms
set_option linter.unusedVariables false
set_option maxRecDepth 100000
namespace Go.Proofs.YtccnadleegcobaaGreat.Pv
open Go Go.Pev

def tab : List (Nat × Pfn) := [(3, f3),
  (4, f4),
  (5, f5),
  (6, f6),
  (7, f7),
  (8, f8),
  (9, f9),
  (10, f10),
  (11, f11),
  (12, f12),
  (13, f13),
  (14, f14),
  (15, f15),
  (16, f16),
  (17, f17),
  (18, f18),
  (19, f19),
  (21, f21),
  (22, f22),
  (23, f23),
  (24, f24),
  (25, f25),
  (26, f26),
  (27, f27),
  (28, f28),
  (30, f30),
  (31, f31),
  (32, f32),
  (33, f33),
  (34, f34),
  (35, f35),
  (36, f36),
  (38, f38),
  (40, f40),
  (41, f41),
  (42, f42),
  (43, f43),
  (44, f44),
  (48, f48),
  (49, f49),
  (50, f50),
  (51, f51),
  (52, f52),
  (53, f53),
  (54, f54),
  (55, f55),
  (56, f56),
  (57, f57),
  (58, f58),
  (59, f59),
  (61, f61),
  (62, f62),
  (63, f63),
  (64, f64),
  (66, f66),
  (67, f67),
  (71, f71),
  (72, f72),
  (73, f73),
  (74, f74),
  (75, f75),
  (76, f76),
  (77, f77),
  (78, f78),
  (79, f79),
  (80, f80),
  (81, f81),
  (82, f82),
  (83, f83),
  (84, f84),
  (97, f97),
  (98, f98),
  (99, f99)]
def exs : List (Nat × (List V → HP → Nat → Option (V × HP × Nat))) := [(45, cloneP 3 1 8),
  (60, cloneP 38 1 24),
  (39, cloneP 77 2 24),
  (46, sortP),
  (29, joinP),
  (37, ckP 65),
  (20, strP 65 5)]
def owns : List Nat := [45, 60, 39]
def hpms : List Nat := [41, 18, 42, 46, 37, 20]
def cfg : Cfg := ⟨fun f => tab.lookup f, fun f => owns.contains f, fun f => hpms.contains f, fun f => exs.lookup f⟩

theorem lookup_mem {α : Type} {f : Nat} {fn : α} : ∀ {l : List (Nat × α)}, l.lookup f = some fn → (f, fn) ∈ l
  | [], h => by cases h
  | (g, gn) :: l, h => by
    rw [List.lookup_cons] at h
    by_cases e : f = g
    · subst e; simp at h; subst h; exact List.mem_cons_self
    · have : (f == g) = false := by simpa using e
      rw [this] at h
      exact List.mem_cons_of_mem _ (lookup_mem h)

def Fine (p : Nat × Pfn) : Prop := (∃ A, compF Go.Proofs.Tryz.prog A p.1 = some p.2) ∧ goodFn Go.Proofs.Tryz.prog p.1 = true
theorem mixed : Go.Proofs.Tryz.prog.follows .mixedOrders = true := by kernel_rfl

theorem g3 : Fine (3, f3) := ⟨⟨_, f3C⟩, by kernel_rfl⟩
theorem g4 : Fine (4, f4) := ⟨⟨_, f4C⟩, by kernel_rfl⟩
theorem g5 : Fine (5, f5) := ⟨⟨_, f5C⟩, by kernel_rfl⟩
theorem g6 : Fine (6, f6) := ⟨⟨_, f6C⟩, by kernel_rfl⟩
theorem g7 : Fine (7, f7) := ⟨⟨_, f7C⟩, by kernel_rfl⟩
theorem g8 : Fine (8, f8) := ⟨⟨_, f8C⟩, by kernel_rfl⟩
theorem g9 : Fine (9, f9) := ⟨⟨_, f9C⟩, by kernel_rfl⟩
theorem g10 : Fine (10, f10) := ⟨⟨_, f10C⟩, by kernel_rfl⟩
theorem g11 : Fine (11, f11) := ⟨⟨_, f11C⟩, by kernel_rfl⟩
theorem g12 : Fine (12, f12) := ⟨⟨_, f12C⟩, by kernel_rfl⟩
theorem g13 : Fine (13, f13) := ⟨⟨_, f13C⟩, by kernel_rfl⟩
theorem g14 : Fine (14, f14) := ⟨⟨_, f14C⟩, by kernel_rfl⟩
theorem g15 : Fine (15, f15) := ⟨⟨_, f15C⟩, by kernel_rfl⟩
theorem g16 : Fine (16, f16) := ⟨⟨_, f16C⟩, by kernel_rfl⟩
theorem g17 : Fine (17, f17) := ⟨⟨_, f17C⟩, by kernel_rfl⟩
theorem g18 : Fine (18, f18) := ⟨⟨_, f18C⟩, by kernel_rfl⟩
theorem g19 : Fine (19, f19) := ⟨⟨_, f19C⟩, by kernel_rfl⟩
theorem g21 : Fine (21, f21) := ⟨⟨_, f21C⟩, by kernel_rfl⟩
theorem g22 : Fine (22, f22) := ⟨⟨_, f22C⟩, by kernel_rfl⟩
theorem g23 : Fine (23, f23) := ⟨⟨_, f23C⟩, by kernel_rfl⟩
theorem g24 : Fine (24, f24) := ⟨⟨_, f24C⟩, by kernel_rfl⟩
theorem g25 : Fine (25, f25) := ⟨⟨_, f25C⟩, by kernel_rfl⟩
theorem g26 : Fine (26, f26) := ⟨⟨_, f26C⟩, by kernel_rfl⟩
theorem g27 : Fine (27, f27) := ⟨⟨_, f27C⟩, by kernel_rfl⟩
theorem g28 : Fine (28, f28) := ⟨⟨_, f28C⟩, by kernel_rfl⟩
theorem g30 : Fine (30, f30) := ⟨⟨_, f30C⟩, by kernel_rfl⟩
theorem g31 : Fine (31, f31) := ⟨⟨_, f31C⟩, by kernel_rfl⟩
theorem g32 : Fine (32, f32) := ⟨⟨_, f32C⟩, by kernel_rfl⟩
theorem g33 : Fine (33, f33) := ⟨⟨_, f33C⟩, by kernel_rfl⟩
theorem g34 : Fine (34, f34) := ⟨⟨_, f34C⟩, by kernel_rfl⟩
theorem g35 : Fine (35, f35) := ⟨⟨_, f35C⟩, by kernel_rfl⟩
theorem g36 : Fine (36, f36) := ⟨⟨_, f36C⟩, by kernel_rfl⟩
theorem g38 : Fine (38, f38) := ⟨⟨_, f38C⟩, by kernel_rfl⟩
theorem g40 : Fine (40, f40) := ⟨⟨_, f40C⟩, by kernel_rfl⟩
theorem g41 : Fine (41, f41) := ⟨⟨_, f41C⟩, by kernel_rfl⟩
theorem g42 : Fine (42, f42) := ⟨⟨_, f42C⟩, by kernel_rfl⟩
theorem g43 : Fine (43, f43) := ⟨⟨_, f43C⟩, by kernel_rfl⟩
theorem g44 : Fine (44, f44) := ⟨⟨_, f44C⟩, by kernel_rfl⟩
theorem g48 : Fine (48, f48) := ⟨⟨_, f48C⟩, by kernel_rfl⟩
theorem g49 : Fine (49, f49) := ⟨⟨_, f49C⟩, by kernel_rfl⟩
theorem g50 : Fine (50, f50) := ⟨⟨_, f50C⟩, by kernel_rfl⟩
theorem g51 : Fine (51, f51) := ⟨⟨_, f51C⟩, by kernel_rfl⟩
theorem g52 : Fine (52, f52) := ⟨⟨_, f52C⟩, by kernel_rfl⟩
theorem g53 : Fine (53, f53) := ⟨⟨_, f53C⟩, by kernel_rfl⟩
theorem g54 : Fine (54, f54) := ⟨⟨_, f54C⟩, by kernel_rfl⟩
theorem g55 : Fine (55, f55) := ⟨⟨_, f55C⟩, by kernel_rfl⟩
theorem g56 : Fine (56, f56) := ⟨⟨_, f56C⟩, by kernel_rfl⟩
theorem g57 : Fine (57, f57) := ⟨⟨_, f57C⟩, by kernel_rfl⟩
theorem g58 : Fine (58, f58) := ⟨⟨_, f58C⟩, by kernel_rfl⟩
theorem g59 : Fine (59, f59) := ⟨⟨_, f59C⟩, by kernel_rfl⟩
theorem g61 : Fine (61, f61) := ⟨⟨_, f61C⟩, by kernel_rfl⟩
theorem g62 : Fine (62, f62) := ⟨⟨_, f62C⟩, by kernel_rfl⟩
theorem g63 : Fine (63, f63) := ⟨⟨_, f63C⟩, by kernel_rfl⟩
theorem g64 : Fine (64, f64) := ⟨⟨_, f64C⟩, by kernel_rfl⟩
theorem g66 : Fine (66, f66) := ⟨⟨_, f66C⟩, by kernel_rfl⟩
theorem g67 : Fine (67, f67) := ⟨⟨_, f67C⟩, by kernel_rfl⟩
theorem g71 : Fine (71, f71) := ⟨⟨_, f71C⟩, by kernel_rfl⟩
theorem g72 : Fine (72, f72) := ⟨⟨_, f72C⟩, by kernel_rfl⟩
theorem g73 : Fine (73, f73) := ⟨⟨_, f73C⟩, by kernel_rfl⟩
theorem g74 : Fine (74, f74) := ⟨⟨_, f74C⟩, by kernel_rfl⟩
theorem g75 : Fine (75, f75) := ⟨⟨_, f75C⟩, by kernel_rfl⟩
theorem g76 : Fine (76, f76) := ⟨⟨_, f76C⟩, by kernel_rfl⟩
theorem g77 : Fine (77, f77) := ⟨⟨_, f77C⟩, by kernel_rfl⟩
theorem g78 : Fine (78, f78) := ⟨⟨_, f78C⟩, by kernel_rfl⟩
theorem g79 : Fine (79, f79) := ⟨⟨_, f79C⟩, by kernel_rfl⟩
theorem g80 : Fine (80, f80) := ⟨⟨_, f80C⟩, by kernel_rfl⟩
theorem g81 : Fine (81, f81) := ⟨⟨_, f81C⟩, by kernel_rfl⟩
theorem g82 : Fine (82, f82) := ⟨⟨_, f82C⟩, by kernel_rfl⟩
theorem g83 : Fine (83, f83) := ⟨⟨_, f83C⟩, by kernel_rfl⟩
theorem g84 : Fine (84, f84) := ⟨⟨_, f84C⟩, by kernel_rfl⟩
theorem g97 : Fine (97, f97) := ⟨⟨_, f97C⟩, by kernel_rfl⟩
theorem g98 : Fine (98, f98) := ⟨⟨_, f98C⟩, by kernel_rfl⟩
theorem g99 : Fine (99, f99) := ⟨⟨_, f99C⟩, by kernel_rfl⟩
theorem tab_fine : ∀ p ∈ tab, Fine p := by
  unfold tab
  simp only [List.forall_mem_cons]
  exact ⟨g3, g4, g5, g6, g7, g8, g9, g10, g11, g12, g13, g14, g15, g16, g17, g18, g19, g21, g22, g23, g24, g25, g26, g27, g28, g30, g31, g32, g33, g34, g35, g36, g38, g40, g41, g42, g43, g44, g48, g49, g50, g51, g52, g53, g54, g55, g56, g57, g58, g59, g61, g62, g63, g64, g66, g67, g71, g72, g73, g74, g75, g76, g77, g78, g79, g80, g81, g82, g83, g84, g97, g98, g99, by simp⟩

def ExOk (p : Nat × (List V → HP → Nat → Option (V × HP × Nat))) : Prop := ∀ args h ck r h' ck', p.2 args h ck = some (r, h', ck') → ∀ R w us, HInv R w h ck (fun _ => False) → ArgsRep R w us args → goodFn Go.Proofs.Tryz.prog p.1 = true ∧ Calls Go.Proofs.Tryz.prog p.1 us w (CPost R w h r h' ck' (fun _ => False))
theorem e45 : ExOk (45, cloneP 3 1 8) := clone_ok mixed (f45C : compF Go.Proofs.Tryz.prog f45A 45 = some (cloF 3 1 8)) (by kernel_rfl)
theorem e60 : ExOk (60, cloneP 38 1 24) := clone_ok mixed (f60C : compF Go.Proofs.Tryz.prog f60A 60 = some (cloF 38 1 24)) (by kernel_rfl)
theorem e39 : ExOk (39, cloneP 77 2 24) := clone_ok mixed (f39C : compF Go.Proofs.Tryz.prog f39A 39 = some (cloF 77 2 24)) (by kernel_rfl)
theorem e46 : ExOk (46, sortP) := sort_ok sortSaid (by kernel_rfl)
theorem e29 : ExOk (29, joinP) := join_ok joinSaid (by kernel_rfl)
theorem e37 : ExOk (37, ckP 65) := ck_ok ckSaid (by kernel_rfl)
theorem e20 : ExOk (20, strP 65 5) := str_ok strSaid (by kernel_rfl)
theorem exs_ok : ∀ p ∈ exs, ExOk p := by
  unfold exs
  simp only [List.forall_mem_cons]
  exact ⟨e45, e60, e39, e46, e29, e37, e20, by simp⟩

theorem cfg_ok : CfgOk Go.Proofs.Tryz.prog cfg :=
  ⟨mixed, fun f fn h => tab_fine (f, fn) (lookup_mem h), fun f p h => exs_ok (f, p) (lookup_mem h)⟩
end Go.Proofs.YtccnadleegcobaaGreat.Pv
