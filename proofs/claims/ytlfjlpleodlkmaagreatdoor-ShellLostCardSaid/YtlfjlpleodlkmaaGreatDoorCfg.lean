/- The functions of these laws, and that they are the program's. -/
import Derived.Test.YtlfjlpleodlkmaaGreatDoorEn3
import Derived.Test.YtlfjlpleodlkmaaGreatDoorEn4
import Derived.Test.YtlfjlpleodlkmaaGreatDoorForms
import Derived.Test.YtlfjlpleodlkmaaGreatDoorFormsB
set_option linter.unusedVariables false
set_option maxRecDepth 100000
namespace Go.Proofs.YtlfjlpleodlkmaaGreatDoor.Pv
open Go Go.Pev

def tab : List (Nat × Pfn) := [(8, f8),
  (10, f10),
  (14, f14),
  (15, f15),
  (16, f16),
  (17, f17),
  (20, f20),
  (21, f21),
  (22, f22),
  (23, f23),
  (24, f24),
  (25, f25),
  (26, f26),
  (27, f27),
  (28, f28),
  (29, f29),
  (32, f32),
  (33, f33),
  (35, f35),
  (36, f36),
  (37, f37),
  (38, f38),
  (39, f39),
  (40, f40),
  (41, f41),
  (42, f42),
  (43, f43),
  (45, f45),
  (46, f46),
  (48, f48),
  (49, f49),
  (50, f50),
  (51, f51),
  (52, f52),
  (53, f53),
  (54, f54),
  (55, f55),
  (56, f56),
  (61, f61),
  (62, f62),
  (64, f64),
  (65, f65),
  (66, f66),
  (67, f67),
  (68, f68),
  (69, f69),
  (70, f70),
  (71, f71),
  (72, f72),
  (73, f73),
  (74, f74),
  (75, f75),
  (76, f76),
  (77, f77),
  (78, f78),
  (79, f79),
  (80, f80),
  (81, f81),
  (82, f82),
  (83, f83),
  (85, f85),
  (86, f86),
  (87, f87),
  (88, f88),
  (89, f89),
  (90, f90),
  (91, f91),
  (92, f92),
  (93, f93),
  (94, f94),
  (95, f95),
  (96, f96),
  (99, f99),
  (100, f100),
  (101, f101),
  (107, f107),
  (109, f109),
  (110, f110),
  (111, f111),
  (112, f112),
  (113, f113),
  (114, f114),
  (115, f115),
  (116, f116),
  (117, f117),
  (118, f118),
  (119, f119),
  (120, f120),
  (121, f121),
  (122, f122),
  (123, f123),
  (124, f124),
  (125, f125),
  (126, f126),
  (127, f127),
  (128, f128),
  (129, f129),
  (130, f130),
  (140, f140),
  (141, f141),
  (142, f142),
  (143, f143),
  (144, f144),
  (145, f145),
  (146, f146),
  (147, f147),
  (148, f148),
  (149, f149),
  (150, f150),
  (151, f151),
  (152, f152),
  (153, f153),
  (154, f154),
  (177, f177),
  (178, f178)]
def exs : List (Nat × (List V → HP → Nat → Option (V × HP × Nat))) := [(97, cloneP 3 1 8),
  (44, cloneP 31 1 24),
  (57, cloneP 9 1 16),
  (131, cloneP 176 5 56),
  (84, delP),
  (98, sortP),
  (60, ckP 62),
  (34, strP 62 5),
  (30, splitP),
  (31, trimP),
  (138, atoiP),
  (63, itoaP)]
def owns : List Nat := [97, 44, 57, 131, 124]
def hpms : List Nat := [17, 26, 22, 28, 20, 27, 21, 45, 46, 49, 52, 24, 25, 23, 100, 101, 32, 29, 33, 64, 12, 13, 84, 98, 60, 34]
def cfg : Cfg := ⟨fun f => tab.lookup f, fun f => owns.contains f, fun f => hpms.contains f, fun f => exs.lookup f⟩

theorem lookup_mem {α : Type} {f : Nat} {fn : α} : ∀ {l : List (Nat × α)}, l.lookup f = some fn → (f, fn) ∈ l
  | [], h => by cases h
  | (g, gn) :: l, h => by
    rw [List.lookup_cons] at h
    by_cases e : f = g
    · subst e; simp at h; subst h; exact List.mem_cons_self
    · have : (f == g) = false := by simpa using e
      rw [this] at h
      exact List.mem_cons_of_mem _ (lookup_mem h)

def Fine (p : Nat × Pfn) : Prop := (∃ A, compF Go.Proofs.Tryz.prog A p.1 = some p.2) ∧ goodFn Go.Proofs.Tryz.prog p.1 = true
theorem mixed : Go.Proofs.Tryz.prog.follows .mixedOrders = true := by kernel_rfl

theorem g8 : Fine (8, f8) := ⟨⟨_, f8C⟩, by kernel_rfl⟩
theorem g10 : Fine (10, f10) := ⟨⟨_, f10C⟩, by kernel_rfl⟩
theorem g14 : Fine (14, f14) := ⟨⟨_, f14C⟩, by kernel_rfl⟩
theorem g15 : Fine (15, f15) := ⟨⟨_, f15C⟩, by kernel_rfl⟩
theorem g16 : Fine (16, f16) := ⟨⟨_, f16C⟩, by kernel_rfl⟩
theorem g17 : Fine (17, f17) := ⟨⟨_, f17C⟩, by kernel_rfl⟩
theorem g20 : Fine (20, f20) := ⟨⟨_, f20C⟩, by kernel_rfl⟩
theorem g21 : Fine (21, f21) := ⟨⟨_, f21C⟩, by kernel_rfl⟩
theorem g22 : Fine (22, f22) := ⟨⟨_, f22C⟩, by kernel_rfl⟩
theorem g23 : Fine (23, f23) := ⟨⟨_, f23C⟩, by kernel_rfl⟩
theorem g24 : Fine (24, f24) := ⟨⟨_, f24C⟩, by kernel_rfl⟩
theorem g25 : Fine (25, f25) := ⟨⟨_, f25C⟩, by kernel_rfl⟩
theorem g26 : Fine (26, f26) := ⟨⟨_, f26C⟩, by kernel_rfl⟩
theorem g27 : Fine (27, f27) := ⟨⟨_, f27C⟩, by kernel_rfl⟩
theorem g28 : Fine (28, f28) := ⟨⟨_, f28C⟩, by kernel_rfl⟩
theorem g29 : Fine (29, f29) := ⟨⟨_, f29C⟩, by kernel_rfl⟩
theorem g32 : Fine (32, f32) := ⟨⟨_, f32C⟩, by kernel_rfl⟩
theorem g33 : Fine (33, f33) := ⟨⟨_, f33C⟩, by kernel_rfl⟩
theorem g35 : Fine (35, f35) := ⟨⟨_, f35C⟩, by kernel_rfl⟩
theorem g36 : Fine (36, f36) := ⟨⟨_, f36C⟩, by kernel_rfl⟩
theorem g37 : Fine (37, f37) := ⟨⟨_, f37C⟩, by kernel_rfl⟩
theorem g38 : Fine (38, f38) := ⟨⟨_, f38C⟩, by kernel_rfl⟩
theorem g39 : Fine (39, f39) := ⟨⟨_, f39C⟩, by kernel_rfl⟩
theorem g40 : Fine (40, f40) := ⟨⟨_, f40C⟩, by kernel_rfl⟩
theorem g41 : Fine (41, f41) := ⟨⟨_, f41C⟩, by kernel_rfl⟩
theorem g42 : Fine (42, f42) := ⟨⟨_, f42C⟩, by kernel_rfl⟩
theorem g43 : Fine (43, f43) := ⟨⟨_, f43C⟩, by kernel_rfl⟩
theorem g45 : Fine (45, f45) := ⟨⟨_, f45C⟩, by kernel_rfl⟩
theorem g46 : Fine (46, f46) := ⟨⟨_, f46C⟩, by kernel_rfl⟩
theorem g48 : Fine (48, f48) := ⟨⟨_, f48C⟩, by kernel_rfl⟩
theorem g49 : Fine (49, f49) := ⟨⟨_, f49C⟩, by kernel_rfl⟩
theorem g50 : Fine (50, f50) := ⟨⟨_, f50C⟩, by kernel_rfl⟩
theorem g51 : Fine (51, f51) := ⟨⟨_, f51C⟩, by kernel_rfl⟩
theorem g52 : Fine (52, f52) := ⟨⟨_, f52C⟩, by kernel_rfl⟩
theorem g53 : Fine (53, f53) := ⟨⟨_, f53C⟩, by kernel_rfl⟩
theorem g54 : Fine (54, f54) := ⟨⟨_, f54C⟩, by kernel_rfl⟩
theorem g55 : Fine (55, f55) := ⟨⟨_, f55C⟩, by kernel_rfl⟩
theorem g56 : Fine (56, f56) := ⟨⟨_, f56C⟩, by kernel_rfl⟩
theorem g61 : Fine (61, f61) := ⟨⟨_, f61C⟩, by kernel_rfl⟩
theorem g62 : Fine (62, f62) := ⟨⟨_, f62C⟩, by kernel_rfl⟩
theorem g64 : Fine (64, f64) := ⟨⟨_, f64C⟩, by kernel_rfl⟩
theorem g65 : Fine (65, f65) := ⟨⟨_, f65C⟩, by kernel_rfl⟩
theorem g66 : Fine (66, f66) := ⟨⟨_, f66C⟩, by kernel_rfl⟩
theorem g67 : Fine (67, f67) := ⟨⟨_, f67C⟩, by kernel_rfl⟩
theorem g68 : Fine (68, f68) := ⟨⟨_, f68C⟩, by kernel_rfl⟩
theorem g69 : Fine (69, f69) := ⟨⟨_, f69C⟩, by kernel_rfl⟩
theorem g70 : Fine (70, f70) := ⟨⟨_, f70C⟩, by kernel_rfl⟩
theorem g71 : Fine (71, f71) := ⟨⟨_, f71C⟩, by kernel_rfl⟩
theorem g72 : Fine (72, f72) := ⟨⟨_, f72C⟩, by kernel_rfl⟩
theorem g73 : Fine (73, f73) := ⟨⟨_, f73C⟩, by kernel_rfl⟩
theorem g74 : Fine (74, f74) := ⟨⟨_, f74C⟩, by kernel_rfl⟩
theorem g75 : Fine (75, f75) := ⟨⟨_, f75C⟩, by kernel_rfl⟩
theorem g76 : Fine (76, f76) := ⟨⟨_, f76C⟩, by kernel_rfl⟩
theorem g77 : Fine (77, f77) := ⟨⟨_, f77C⟩, by kernel_rfl⟩
theorem g78 : Fine (78, f78) := ⟨⟨_, f78C⟩, by kernel_rfl⟩
theorem g79 : Fine (79, f79) := ⟨⟨_, f79C⟩, by kernel_rfl⟩
theorem g80 : Fine (80, f80) := ⟨⟨_, f80C⟩, by kernel_rfl⟩
theorem g81 : Fine (81, f81) := ⟨⟨_, f81C⟩, by kernel_rfl⟩
theorem g82 : Fine (82, f82) := ⟨⟨_, f82C⟩, by kernel_rfl⟩
theorem g83 : Fine (83, f83) := ⟨⟨_, f83C⟩, by kernel_rfl⟩
theorem g85 : Fine (85, f85) := ⟨⟨_, f85C⟩, by kernel_rfl⟩
theorem g86 : Fine (86, f86) := ⟨⟨_, f86C⟩, by kernel_rfl⟩
theorem g87 : Fine (87, f87) := ⟨⟨_, f87C⟩, by kernel_rfl⟩
theorem g88 : Fine (88, f88) := ⟨⟨_, f88C⟩, by kernel_rfl⟩
theorem g89 : Fine (89, f89) := ⟨⟨_, f89C⟩, by kernel_rfl⟩
theorem g90 : Fine (90, f90) := ⟨⟨_, f90C⟩, by kernel_rfl⟩
theorem g91 : Fine (91, f91) := ⟨⟨_, f91C⟩, by kernel_rfl⟩
theorem g92 : Fine (92, f92) := ⟨⟨_, f92C⟩, by kernel_rfl⟩
theorem g93 : Fine (93, f93) := ⟨⟨_, f93C⟩, by kernel_rfl⟩
theorem g94 : Fine (94, f94) := ⟨⟨_, f94C⟩, by kernel_rfl⟩
theorem g95 : Fine (95, f95) := ⟨⟨_, f95C⟩, by kernel_rfl⟩
theorem g96 : Fine (96, f96) := ⟨⟨_, f96C⟩, by kernel_rfl⟩
theorem g99 : Fine (99, f99) := ⟨⟨_, f99C⟩, by kernel_rfl⟩
theorem g100 : Fine (100, f100) := ⟨⟨_, f100C⟩, by kernel_rfl⟩
theorem g101 : Fine (101, f101) := ⟨⟨_, f101C⟩, by kernel_rfl⟩
theorem g107 : Fine (107, f107) := ⟨⟨_, f107C⟩, by kernel_rfl⟩
theorem g109 : Fine (109, f109) := ⟨⟨_, f109C⟩, by kernel_rfl⟩
theorem g110 : Fine (110, f110) := ⟨⟨_, f110C⟩, by kernel_rfl⟩
theorem g111 : Fine (111, f111) := ⟨⟨_, f111C⟩, by kernel_rfl⟩
theorem g112 : Fine (112, f112) := ⟨⟨_, f112C⟩, by kernel_rfl⟩
theorem g113 : Fine (113, f113) := ⟨⟨_, f113C⟩, by kernel_rfl⟩
theorem g114 : Fine (114, f114) := ⟨⟨_, f114C⟩, by kernel_rfl⟩
theorem g115 : Fine (115, f115) := ⟨⟨_, f115C⟩, by kernel_rfl⟩
theorem g116 : Fine (116, f116) := ⟨⟨_, f116C⟩, by kernel_rfl⟩
theorem g117 : Fine (117, f117) := ⟨⟨_, f117C⟩, by kernel_rfl⟩
theorem g118 : Fine (118, f118) := ⟨⟨_, f118C⟩, by kernel_rfl⟩
theorem g119 : Fine (119, f119) := ⟨⟨_, f119C⟩, by kernel_rfl⟩
theorem g120 : Fine (120, f120) := ⟨⟨_, f120C⟩, by kernel_rfl⟩
theorem g121 : Fine (121, f121) := ⟨⟨_, f121C⟩, by kernel_rfl⟩
theorem g122 : Fine (122, f122) := ⟨⟨_, f122C⟩, by kernel_rfl⟩
theorem g123 : Fine (123, f123) := ⟨⟨_, f123C⟩, by kernel_rfl⟩
theorem g124 : Fine (124, f124) := ⟨⟨_, f124C⟩, by kernel_rfl⟩
theorem g125 : Fine (125, f125) := ⟨⟨_, f125C⟩, by kernel_rfl⟩
theorem g126 : Fine (126, f126) := ⟨⟨_, f126C⟩, by kernel_rfl⟩
theorem g127 : Fine (127, f127) := ⟨⟨_, f127C⟩, by kernel_rfl⟩
theorem g128 : Fine (128, f128) := ⟨⟨_, f128C⟩, by kernel_rfl⟩
theorem g129 : Fine (129, f129) := ⟨⟨_, f129C⟩, by kernel_rfl⟩
theorem g130 : Fine (130, f130) := ⟨⟨_, f130C⟩, by kernel_rfl⟩
theorem g140 : Fine (140, f140) := ⟨⟨_, f140C⟩, by kernel_rfl⟩
theorem g141 : Fine (141, f141) := ⟨⟨_, f141C⟩, by kernel_rfl⟩
theorem g142 : Fine (142, f142) := ⟨⟨_, f142C⟩, by kernel_rfl⟩
theorem g143 : Fine (143, f143) := ⟨⟨_, f143C⟩, by kernel_rfl⟩
theorem g144 : Fine (144, f144) := ⟨⟨_, f144C⟩, by kernel_rfl⟩
theorem g145 : Fine (145, f145) := ⟨⟨_, f145C⟩, by kernel_rfl⟩
theorem g146 : Fine (146, f146) := ⟨⟨_, f146C⟩, by kernel_rfl⟩
theorem g147 : Fine (147, f147) := ⟨⟨_, f147C⟩, by kernel_rfl⟩
theorem g148 : Fine (148, f148) := ⟨⟨_, f148C⟩, by kernel_rfl⟩
theorem g149 : Fine (149, f149) := ⟨⟨_, f149C⟩, by kernel_rfl⟩
theorem g150 : Fine (150, f150) := ⟨⟨_, f150C⟩, by kernel_rfl⟩
theorem g151 : Fine (151, f151) := ⟨⟨_, f151C⟩, by kernel_rfl⟩
theorem g152 : Fine (152, f152) := ⟨⟨_, f152C⟩, by kernel_rfl⟩
theorem g153 : Fine (153, f153) := ⟨⟨_, f153C⟩, by kernel_rfl⟩
theorem g154 : Fine (154, f154) := ⟨⟨_, f154C⟩, by kernel_rfl⟩
theorem g177 : Fine (177, f177) := ⟨⟨_, f177C⟩, by kernel_rfl⟩
theorem g178 : Fine (178, f178) := ⟨⟨_, f178C⟩, by kernel_rfl⟩
theorem tab_fine : ∀ p ∈ tab, Fine p := by
  unfold tab
  simp only [List.forall_mem_cons]
  exact ⟨g8, g10, g14, g15, g16, g17, g20, g21, g22, g23, g24, g25, g26, g27, g28, g29, g32, g33, g35, g36, g37, g38, g39, g40, g41, g42, g43, g45, g46, g48, g49, g50, g51, g52, g53, g54, g55, g56, g61, g62, g64, g65, g66, g67, g68, g69, g70, g71, g72, g73, g74, g75, g76, g77, g78, g79, g80, g81, g82, g83, g85, g86, g87, g88, g89, g90, g91, g92, g93, g94, g95, g96, g99, g100, g101, g107, g109, g110, g111, g112, g113, g114, g115, g116, g117, g118, g119, g120, g121, g122, g123, g124, g125, g126, g127, g128, g129, g130, g140, g141, g142, g143, g144, g145, g146, g147, g148, g149, g150, g151, g152, g153, g154, g177, g178, by simp⟩

def ExOk (p : Nat × (List V → HP → Nat → Option (V × HP × Nat))) : Prop := ∀ args h ck r h' ck', p.2 args h ck = some (r, h', ck') → ∀ R w us, HInv R w h ck (fun _ => False) → ArgsRep R w us args → goodFn Go.Proofs.Tryz.prog p.1 = true ∧ Calls Go.Proofs.Tryz.prog p.1 us w (CPost R w h r h' ck' (fun _ => False))
theorem e97 : ExOk (97, cloneP 3 1 8) := clone_ok mixed (f97C : compF Go.Proofs.Tryz.prog f97A 97 = some (cloF 3 1 8)) (by kernel_rfl)
theorem e44 : ExOk (44, cloneP 31 1 24) := clone_ok mixed (f44C : compF Go.Proofs.Tryz.prog f44A 44 = some (cloF 31 1 24)) (by kernel_rfl)
theorem e57 : ExOk (57, cloneP 9 1 16) := clone_ok mixed (f57C : compF Go.Proofs.Tryz.prog f57A 57 = some (cloF 9 1 16)) (by kernel_rfl)
theorem e131 : ExOk (131, cloneP 176 5 56) := clone_ok mixed (f131C : compF Go.Proofs.Tryz.prog f131A 131 = some (cloF 176 5 56)) (by kernel_rfl)
theorem e84 : ExOk (84, delP) := del_ok delSaid (by kernel_rfl)
theorem e98 : ExOk (98, sortP) := sort_ok sortSaid (by kernel_rfl)
theorem e60 : ExOk (60, ckP 62) := ck_ok ckSaid (by kernel_rfl)
theorem e34 : ExOk (34, strP 62 5) := str_ok strSaid (by kernel_rfl)
theorem e30 : ExOk (30, splitP) := split_ok splitSaid (by kernel_rfl)
theorem e31 : ExOk (31, trimP) := trim_ok trimSaid (by kernel_rfl)
theorem e138 : ExOk (138, atoiP) := atoi_ok atoiSaid (by kernel_rfl)
theorem e63 : ExOk (63, itoaP) := itoa_ok itoaSaid (by kernel_rfl)
theorem exs_ok : ∀ p ∈ exs, ExOk p := by
  unfold exs
  simp only [List.forall_mem_cons]
  exact ⟨e97, e44, e57, e131, e84, e98, e60, e34, e30, e31, e138, e63, by simp⟩

theorem cfg_ok : CfgOk Go.Proofs.Tryz.prog cfg :=
  ⟨mixed, fun f fn h => tab_fine (f, fn) (lookup_mem h), fun f p h => exs_ok (f, p) (lookup_mem h)⟩
end Go.Proofs.YtlfjlpleodlkmaaGreatDoor.Pv
