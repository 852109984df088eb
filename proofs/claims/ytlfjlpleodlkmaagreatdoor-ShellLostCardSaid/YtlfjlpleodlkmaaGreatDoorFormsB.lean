import Derived.Test.YtlfjlpleodlkmaaGreatDoorEn1
import Derived.Test.YtlfjlpleodlkmaaGreatDoorEn3
import Derived.Test.YtlfjlpleodlkmaaGreatDoorProg
import Derived.KernelRfl
import Derived.Test.YtlfjlpleodlkmaaGreatDoorShort
namespace Go.Proofs.YtlfjlpleodlkmaaGreatDoor.Pv
open Go Go.Pev
abbrev f85r0 : Pc := .reg [
 Qd 0 4 (.mv (kz 0))] [0, 1] []
abbrev f85r1 : Pc := .reg [
 Qd 0 5 (.mv (kz 0))] [0, 1, 5] []
abbrev f85r2 : Pc := .reg [
 Qd 0 6 (.mv (kz 3))] [0, 1, 5, 6] []
abbrev f85r3 : Pc := .reg [
 Qd 0 7 (.mv (tm 6)),
 Qd 1 8 (.bin .geq (tm 7) (kz 0))] [0, 1, 5, 6, 8] []
abbrev f85r5 : Pc := .reg [
 Qd 0 11 (.mv (tm 5)),
 Qd 1 12 (.bin .shl (tm 11) (.c (.t (.i .u64 8)))),
 Qd 2 13 (.mv (tm 0)),
 Qd 3 14 (.mv (tm 1)),
 Qd 4 15 (.bin .mul (kz 4) (tm 14)),
 Qd 5 16 (.mv (tm 6)),
 Qd 6 17 (.bin .add (tm 15) (tm 16)),
 Qd 7 18 (.ixs (tm 13) (tm 17)),
 Qd 8 19 (.cvi .i64 (tm 18)),
 Qd 9 20 (.bin .or (tm 12) (tm 19)),
 Qd 10 5 (.mv (tm 20))] [0, 1, 5, 6] []
abbrev f85r4 : Pc := .reg [
 Qd 0 9 (.mv (tm 6)),
 Qd 1 10 (.bin .sub (tm 9) (kz 1)),
 Qd 2 6 (.mv (tm 10))] [0, 1, 5, 6] []
def f85l0 : Pc := (.seq (.seq f85r3 (.cond (tm 8) .skip (.exit 0))) (.seq (.block 1 f85r5) f85r4))
theorem f85l0e (C : Cfg) (s : St) : evL C f85l0 s = evL C (.seq (.seq f85r3 (.cond (tm 8) .skip (.exit 0))) (.seq (.block 1 f85r5) f85r4)) s := rfl
abbrev f85r6 : Pc := .reg [
 Qd 0 21 (.mv (tm 5)),
 Qd 1 4 (.mv (tm 21))] [4] []
abbrev f85b : Pc := (.seq f85r0 (.seq f85r1 (.seq (.seq f85r2 (.block 0 (.loop f85l0))) (.seq f85r6 .ret))))
abbrev f85 : Pfn := ⟨2, 22, [.tmp 4], f85b⟩
def f85K : Array (List Nat) := #[[0, 1], [0, 1, 5], [0, 1, 5, 6], [0, 1, 5, 6, 8], [0, 1, 5, 6], [0, 1, 5, 6], [4]]
def f85H : Array (List Nat) := #[[], [], [], [], [], [], []]
def f85A : Ann := ⟨fun r => f85K.getD r [], fun r => f85H.getD r [], fun r i => ([] : List (Nat × Nat)).contains (r, i)⟩
theorem f85C : compF Go.Proofs.Tryz.prog f85A 85 = some f85 := by kernel_rfl

abbrev f86r0 : Pc := .reg [
 Qd 0 2 (.mv (kz 0))] [0] []
abbrev f86r1 : Pc := .reg [
 Qd 0 3 (.mv (.c (.t (.i .u32 4294967295))))] [0, 3] []
abbrev f86r2 : Pc := .reg [
 Qd 0 7 (.mv (tm 0)),
 Qd 1 8 (.sbs 5 (tm 7)),
 Qd 2 9 (.lenL (tm 8)),
 Qd 3 10 (.mv (kz 0))] [3, 8, 9, 10] []
abbrev f86r3 : Pc := .reg [
 Qd 0 11 (.bin .lss (tm 10) (tm 9))] [3, 8, 9, 10, 11] []
abbrev f86r4 : Pc := .reg [
 Qd 0 12 (.ixS 1 (tm 8) (tm 10)),
 Qd 1 13 (.load false 1 (tm 12)),
 Qd 2 5 (.mv (tm 13))] [3, 5, 8, 9, 10] []
abbrev f86r5 : Pc := .reg [
 Qd 0 14 (.mv (tm 3)),
 Qd 1 15 (.mv (tm 5)),
 Qd 2 16 (.cvi .u32 (tm 15)),
 Qd 3 17 (.bin .xor (tm 14) (tm 16)),
 Qd 4 3 (.mv (tm 17))] [3, 8, 9, 10] []
abbrev f86r6 : Pc := .reg [
 Qd 0 18 (.mv (kz 0))] [3, 8, 9, 10, 18] []
abbrev f86r7 : Pc := .reg [
 Qd 0 19 (.bin .lss (tm 18) (kz 8))] [3, 8, 9, 10, 18, 19] []
abbrev f86r8 : Pc := .reg [
 Qd 0 20 (.mv (tm 3)),
 Qd 1 21 (.bin .and (tm 20) (.c (.t (.i .u32 1)))),
 Qd 2 6 (.mv (tm 21))] [3, 6, 8, 9, 10, 18] []
abbrev f86r9 : Pc := .reg [
 Qd 0 22 (.mv (tm 3)),
 Qd 1 23 (.bin .shr (tm 22) (.c (.t (.i .u64 1)))),
 Qd 2 3 (.mv (tm 23))] [3, 6, 8, 9, 10, 18] []
abbrev f86r10 : Pc := .reg [
 Qd 0 24 (.mv (tm 3)),
 Qd 1 25 (.mv (tm 6)),
 Qd 2 26 (.bin .mul (.c (.t (.i .u32 3988292384))) (tm 25)),
 Qd 3 27 (.bin .xor (tm 24) (tm 26)),
 Qd 4 3 (.mv (tm 27))] [3, 8, 9, 10, 18] []
abbrev f86r11 : Pc := .reg [
 Qd 0 28 (.bin .add (tm 18) (kz 1)),
 Qd 1 18 (.mv (tm 28))] [3, 8, 9, 10, 18] []
def f86l0 : Pc := (.seq f86r7 (.seq (.cond (tm 19) .skip (.exit 2)) (.seq (.block 3 (.seq f86r8 (.seq f86r9 f86r10))) f86r11)))
theorem f86l0e (C : Cfg) (s : St) : evL C f86l0 s = evL C (.seq f86r7 (.seq (.cond (tm 19) .skip (.exit 2)) (.seq (.block 3 (.seq f86r8 (.seq f86r9 f86r10))) f86r11))) s := rfl
abbrev f86r12 : Pc := .reg [
 Qd 0 29 (.bin .add (tm 10) (kz 1)),
 Qd 1 10 (.mv (tm 29))] [3, 8, 9, 10] []
def f86l1 : Pc := (.seq f86r3 (.seq (.cond (tm 11) .skip (.exit 0)) (.seq (.block 1 (.seq f86r4 (.seq f86r5 (.seq f86r6 (.block 2 (.loop f86l0)))))) f86r12)))
theorem f86l1e (C : Cfg) (s : St) : evL C f86l1 s = evL C (.seq f86r3 (.seq (.cond (tm 11) .skip (.exit 0)) (.seq (.block 1 (.seq f86r4 (.seq f86r5 (.seq f86r6 (.block 2 (.loop f86l0)))))) f86r12))) s := rfl
abbrev f86r13 : Pc := .reg [
 Qd 0 30 (.mv (tm 3)),
 Qd 1 31 (.bin .xor (tm 30) (.c (.t (.i .u32 4294967295)))),
 Qd 2 32 (.cvi .i64 (tm 31)),
 Qd 3 2 (.mv (tm 32))] [2] [8]
abbrev f86b : Pc := (.seq f86r0 (.seq f86r1 (.seq (.seq f86r2 (.block 0 (.loop f86l1))) (.seq f86r13 .ret))))
abbrev f86 : Pfn := ⟨1, 33, [.tmp 2], f86b⟩
def f86K : Array (List Nat) := #[[0], [0, 3], [3, 8, 9, 10], [3, 8, 9, 10, 11], [3, 5, 8, 9, 10], [3, 8, 9, 10], [3, 8, 9, 10, 18], [3, 8, 9, 10, 18, 19], [3, 6, 8, 9, 10, 18], [3, 6, 8, 9, 10, 18], [3, 8, 9, 10, 18], [3, 8, 9, 10, 18], [3, 8, 9, 10], [2]]
def f86H : Array (List Nat) := #[[], [], [], [], [], [], [], [], [], [], [], [], [], [8]]
def f86A : Ann := ⟨fun r => f86K.getD r [], fun r => f86H.getD r [], fun r i => ([] : List (Nat × Nat)).contains (r, i)⟩
theorem f86C : compF Go.Proofs.Tryz.prog f86A 86 = some f86 := by kernel_rfl

abbrev f87r0 : Pc := .reg [
 Qd 0 2 (.mv (kz 0))] [0] []
abbrev f87r1 : Pc := .reg [
 Qd 0 3 (.mv (tm 0)),
 Qd 1 4 (.cvi .i32 (tm 3)),
 Qd 2 5 (.cvi .i64 (tm 4)),
 Qd 3 2 (.mv (tm 5))] [2] []
abbrev f87b : Pc := (.seq f87r0 (.seq f87r1 .ret))
abbrev f87 : Pfn := ⟨1, 6, [.tmp 2], f87b⟩
def f87K : Array (List Nat) := #[[0], [2]]
def f87H : Array (List Nat) := #[[], []]
def f87A : Ann := ⟨fun r => f87K.getD r [], fun r => f87H.getD r [], fun r i => ([] : List (Nat × Nat)).contains (r, i)⟩
theorem f87C : compF Go.Proofs.Tryz.prog f87A 87 = some f87 := by kernel_rfl

abbrev f88r0 : Pc := .reg [
 Qd 0 1 (.box 95 11 (tm 0)),
 Qd 1 2 (.mv kF)] [1] []
abbrev f88r1 : Pc := .reg [
 Qd 0 7 (.load true 11 (tm 1)),
 Qd 1 8 (.call 124 [(tm 7)]),
 Qd 2 9 (.lenL (tm 8)),
 Qd 3 10 (.mv (kz 0))] [1, 8, 9, 10] []
abbrev f88r2 : Pc := .reg [
 Qd 0 11 (.bin .lss (tm 10) (tm 9))] [1, 8, 9, 10, 11] []
abbrev f88r3 : Pc := .reg [
 Qd 0 12 (.ixS 1 (tm 8) (tm 10)),
 Qd 1 13 (.load false 1 (tm 12)),
 Qd 2 4 (.mv (tm 13))] [1, 4, 8, 9, 10] []
abbrev f88r4 : Pc := .reg [
 Qd 0 14 (.mv (tm 4)),
 Qd 1 15 (.bin .lss (tm 14) (kz 0)),
 Qd 2 16 (.mv (tm 15)),
 Gf 3 17 16 (.mv (tm 4)),
 Gf 4 18 16 (.bin .gtr (tm 17) (kz 2147483647)),
 Qd 5 19 (.pick (tm 16) kT (tm 18))] [1, 8, 9, 10, 19] []
abbrev f88r5 : Pc := .reg [
 Qd 0 2 (.mv kF)] [2] [1, 8]
abbrev f88r6 : Pc := .reg [
 Qd 0 20 (.bin .add (tm 10) (kz 1)),
 Qd 1 10 (.mv (tm 20))] [1, 8, 9, 10] []
def f88l0 : Pc := (.seq f88r2 (.seq (.cond (tm 11) .skip (.exit 0)) (.seq (.block 1 (.seq f88r3 (.seq f88r4 (.cond (tm 19) (.seq f88r5 .ret) .skip)))) f88r6)))
theorem f88l0e (C : Cfg) (s : St) : evL C f88l0 s = evL C (.seq f88r2 (.seq (.cond (tm 11) .skip (.exit 0)) (.seq (.block 1 (.seq f88r3 (.seq f88r4 (.cond (tm 19) (.seq f88r5 .ret) .skip)))) f88r6))) s := rfl
abbrev f88r7 : Pc := .reg [
 Qd 0 21 (.fad 10 (tm 1)),
 Qd 1 22 (.load false 1 (tm 21)),
 Qd 2 23 (.lenL (tm 22)),
 Qd 3 24 (.mv (kz 0))] [1, 22, 23, 24] [8]
abbrev f88r8 : Pc := .reg [
 Qd 0 25 (.bin .lss (tm 24) (tm 23))] [1, 22, 23, 24, 25] []
abbrev f88r9 : Pc := .reg [
 Qd 0 26 (.ixS 1 (tm 22) (tm 24)),
 Qd 1 27 (.load false 1 (tm 26)),
 Qd 2 6 (.mv (tm 27))] [1, 6, 22, 23, 24] []
abbrev f88r10 : Pc := .reg [
 Qd 0 28 (.mv (tm 6)),
 Qd 1 29 (.bin .lss (tm 28) (kz (-2147483648))),
 Qd 2 30 (.mv (tm 29)),
 Gf 3 31 30 (.mv (tm 6)),
 Gf 4 32 30 (.bin .gtr (tm 31) (kz 2147483647)),
 Qd 5 33 (.pick (tm 30) kT (tm 32))] [1, 22, 23, 24, 33] []
abbrev f88r11 : Pc := .reg [
 Qd 0 2 (.mv kF)] [2] [1]
abbrev f88r12 : Pc := .reg [
 Qd 0 34 (.bin .add (tm 24) (kz 1)),
 Qd 1 24 (.mv (tm 34))] [1, 22, 23, 24] []
def f88l1 : Pc := (.seq f88r8 (.seq (.cond (tm 25) .skip (.exit 2)) (.seq (.block 3 (.seq f88r9 (.seq f88r10 (.cond (tm 33) (.seq f88r11 .ret) .skip)))) f88r12)))
theorem f88l1e (C : Cfg) (s : St) : evL C f88l1 s = evL C (.seq f88r8 (.seq (.cond (tm 25) .skip (.exit 2)) (.seq (.block 3 (.seq f88r9 (.seq f88r10 (.cond (tm 33) (.seq f88r11 .ret) .skip)))) f88r12))) s := rfl
abbrev f88r13 : Pc := .reg [
 Qd 0 35 (.fad 0 (tm 1)),
 Qd 1 36 (.load false 1 (tm 35)),
 Qd 2 37 (.bin .geq (tm 36) (kz 1)),
 Qd 3 38 (.mv (tm 37)),
 Gt 4 39 38 (.fad 0 (tm 1)),
 Gt 5 40 38 (.load false 1 (tm 39)),
 Gt 6 41 38 (.bin .leq (tm 40) (kz 4)),
 Qd 7 42 (.pick (tm 38) (tm 41) kF),
 Qd 8 43 (.mv (tm 42)),
 Gt 9 44 43 (.fad 10 (tm 1)),
 Gt 10 45 43 (.load false 1 (tm 44)),
 Gt 11 46 43 (.lenL (tm 45)),
 Gt 12 47 43 (.bin .leq (tm 46) (kz 8)),
 Qd 13 48 (.pick (tm 43) (tm 47) kF),
 Qd 14 2 (.mv (tm 48))] [2] [1]
abbrev f88b : Pc := (.seq f88r0 (.seq (.seq f88r1 (.block 0 (.loop f88l0))) (.seq (.seq f88r7 (.block 2 (.loop f88l1))) (.seq f88r13 .ret))))
abbrev f88 : Pfn := ⟨1, 49, [.tmp 2], f88b⟩
def f88K : Array (List Nat) := #[[1], [1, 8, 9, 10], [1, 8, 9, 10, 11], [1, 4, 8, 9, 10], [1, 8, 9, 10, 19], [2], [1, 8, 9, 10], [1, 22, 23, 24], [1, 22, 23, 24, 25], [1, 6, 22, 23, 24], [1, 22, 23, 24, 33], [2], [1, 22, 23, 24], [2]]
def f88H : Array (List Nat) := #[[], [], [], [], [], [1, 8], [], [8], [], [], [], [1], [], [1]]
def f88A : Ann := ⟨fun r => f88K.getD r [], fun r => f88H.getD r [], fun r i => ([] : List (Nat × Nat)).contains (r, i)⟩
theorem f88C : compF Go.Proofs.Tryz.prog f88A 88 = some f88 := by kernel_rfl

abbrev f89r0 : Pc := .reg [
 Qd 0 4 (.mv (kz 0))] [0, 1] []
abbrev f89r1 : Pc := .reg [
 Qd 0 6 (.mv (tm 0)),
 Qd 1 7 (.lenL (tm 6)),
 Qd 2 8 (.mv (kz 0))] [0, 1, 7, 8] []
abbrev f89r2 : Pc := .reg [
 Qd 0 9 (.bin .lss (tm 8) (tm 7))] [0, 1, 7, 8, 9] []
abbrev f89r3 : Pc := .reg [
 Qd 0 10 (.mv (tm 8)),
 Qd 1 5 (.mv (tm 10))] [0, 1, 5, 7, 8] []
abbrev f89r4 : Pc := .reg [
 Qd 0 11 (.mv (tm 1)),
 Qd 1 12 (.mv (tm 0)),
 Qd 2 13 (.mv (tm 5)),
 Qd 3 14 (.ixS 4 (tm 12) (tm 13)),
 Qd 4 15 (.load true 4 (tm 14)),
 Qd 5 16 (.callv (tm 11) [(tm 15)])] [0, 1, 5, 7, 8, 16] []
abbrev f89r5 : Pc := .reg [
 Qd 0 17 (.mv (tm 5)),
 Qd 1 4 (.mv (tm 17))] [4] []
abbrev f89r6 : Pc := .reg [
 Qd 0 18 (.bin .add (tm 8) (kz 1)),
 Qd 1 8 (.mv (tm 18))] [0, 1, 7, 8] []
def f89l0 : Pc := (.seq f89r2 (.seq (.cond (tm 9) .skip (.exit 0)) (.seq (.block 1 (.seq f89r3 (.seq f89r4 (.cond (tm 16) (.seq f89r5 .ret) .skip)))) f89r6)))
theorem f89l0e (C : Cfg) (s : St) : evL C f89l0 s = evL C (.seq f89r2 (.seq (.cond (tm 9) .skip (.exit 0)) (.seq (.block 1 (.seq f89r3 (.seq f89r4 (.cond (tm 16) (.seq f89r5 .ret) .skip)))) f89r6))) s := rfl
abbrev f89r7 : Pc := .reg [
 Qd 0 4 (.mv (kz (-1)))] [4] []
abbrev f89b : Pc := (.seq f89r0 (.seq (.seq f89r1 (.block 0 (.loop f89l0))) (.seq f89r7 .ret)))
abbrev f89 : Pfn := ⟨2, 19, [.tmp 4], f89b⟩
def f89K : Array (List Nat) := #[[0, 1], [0, 1, 7, 8], [0, 1, 7, 8, 9], [0, 1, 5, 7, 8], [0, 1, 5, 7, 8, 16], [4], [0, 1, 7, 8], [4]]
def f89H : Array (List Nat) := #[[], [], [], [], [], [], [], []]
def f89A : Ann := ⟨fun r => f89K.getD r [], fun r => f89H.getD r [], fun r i => ([] : List (Nat × Nat)).contains (r, i)⟩
theorem f89C : compF Go.Proofs.Tryz.prog f89A 89 = some f89 := by kernel_rfl

abbrev f90r0 : Pc := .reg [
 Qd 0 2 (.box 91 4 (tm 0)),
 Qd 1 3 (.mv kF)] [1, 2] []
abbrev f90r1 : Pc := .reg [
 Qd 0 4 (.fad 0 (tm 2)),
 Qd 1 5 (.load false 1 (tm 4)),
 Qd 2 6 (.fad 6 (tm 1)),
 Qd 3 7 (.load false 1 (tm 6)),
 Qd 4 8 (.bin .eql (tm 5) (tm 7)),
 Qd 5 9 (.mv (tm 8)),
 Gt 6 10 9 (.fad 1 (tm 2)),
 Gt 7 11 9 (.load false 1 (tm 10)),
 Gt 8 12 9 (.fad 7 (tm 1)),
 Gt 9 13 9 (.load false 1 (tm 12)),
 Gt 10 14 9 (.bin .eql (tm 11) (tm 13)),
 Qd 11 15 (.pick (tm 9) (tm 14) kF),
 Qd 12 16 (.mv (tm 15)),
 Gt 13 17 16 (.fad 2 (tm 2)),
 Gt 14 18 16 (.load false 1 (tm 17)),
 Gt 15 19 16 (.fad 8 (tm 1)),
 Gt 16 20 16 (.load false 1 (tm 19)),
 Gt 17 21 16 (.bin .eql (tm 18) (tm 20)),
 Qd 18 22 (.pick (tm 16) (tm 21) kF),
 Qd 19 3 (.mv (tm 22))] [3] [2]
abbrev f90b : Pc := (.seq f90r0 (.seq f90r1 .ret))
abbrev f90 : Pfn := ⟨2, 23, [.tmp 3], f90b⟩
def f90K : Array (List Nat) := #[[1, 2], [3]]
def f90H : Array (List Nat) := #[[], [2]]
def f90A : Ann := ⟨fun r => f90K.getD r [], fun r => f90H.getD r [], fun r i => ([] : List (Nat × Nat)).contains (r, i)⟩
theorem f90C : compF Go.Proofs.Tryz.prog f90A 90 = some f90 := by kernel_rfl

abbrev f91r0 : Pc := .reg [
 Qd 0 4 (.box 41 2 (tm 0)),
 Qd 1 5 (.box 50 2 (tm 1)),
 Qd 2 7 (.box 95 11 (tm 3)),
 Qd 3 8 (.mv kF)] [2, 4, 5, 7] []
abbrev f91r1 : Pc := .reg [
 Qd 0 9 (.load true 2 (tm 4)),
 Qd 1 10 (.callq 39 [(tm 9)]),
 Qd 2 11 (.mv (tm 10)),
 Gt 3 12 11 (.load true 2 (tm 5)),
 Gt 4 13 11 (.callq 41 [(tm 12)]),
 Qd 5 14 (.pick (tm 11) (tm 13) kF),
 Qd 6 15 (.mv (tm 14)),
 Gt 7 16 15 (.load true 11 (tm 7)),
 Gt 8 17 15 (.callq 88 [(tm 16)]),
 Qd 9 18 (.pick (tm 15) (tm 17) kF),
 Qd 10 19 (.mv (tm 18)),
 Gt 11 20 19 (.fad 0 (tm 7)),
 Gt 12 21 19 (.load false 1 (tm 20)),
 Gt 13 22 19 (.bin .eql (tm 21) (kz 1)),
 Qd 14 23 (.pick (tm 19) (tm 22) kF),
 Qd 15 24 (.mv (tm 23)),
 Gt 16 25 24 (.fad 2 (tm 7)),
 Gt 17 26 24 (.load false 1 (tm 25)),
 Gt 18 27 24 (.mv (tm 2)),
 Gt 19 28 24 (.bin .eql (tm 26) (tm 27)),
 Qd 20 29 (.pick (tm 24) (tm 28) kF),
 Qd 21 30 (.mv (tm 29)),
 Gt 22 31 30 (.fad 5 (tm 7)),
 Gt 23 32 30 (.load false 1 (tm 31)),
 Gt 24 33 30 (.fad 1 (tm 4)),
 Gt 25 34 30 (.load false 1 (tm 33)),
 Gt 26 35 30 (.lenL (tm 34)),
 Gt 27 36 30 (.bin .lss (tm 32) (tm 35)),
 Qd 28 37 (.pick (tm 30) (tm 36) kF),
 Qd 29 38 (.mv (tm 37)),
 Gt 30 39 38 (.fad 8 (tm 7)),
 Gt 31 40 38 (.load false 1 (tm 39)),
 Gt 32 41 38 (.fad 1 (tm 4)),
 Gt 33 42 38 (.load false 1 (tm 41)),
 Gt 34 43 38 (.fad 5 (tm 7)),
 Gt 35 44 38 (.load false 1 (tm 43)),
 Gt 36 45 38 (.ixS 3 (tm 42) (tm 44)),
 Gt 37 46 38 (.fad 1 (tm 45)),
 Gt 38 47 38 (.load false 1 (tm 46)),
 Gt 39 48 38 (.lenL (tm 47)),
 Gt 40 49 38 (.bin .lss (tm 40) (tm 48)),
 Qd 41 50 (.pick (tm 38) (tm 49) kF),
 Qd 42 51 (.mv (tm 50)),
 Gt 43 52 51 (.load true 2 (tm 4)),
 Gt 44 53 51 (.fad 10 (tm 7)),
 Gt 45 54 51 (.load false 1 (tm 53)),
 Gt 46 55 51 (.bslF 1 [(tm 54)]),
 Gt 47 56 51 (.callq 40 [(tm 52), (tm 55)]),
 Qd 48 57 (.pick (tm 51) (tm 56) kF),
 Qd 49 8 (.mv (tm 57))] [8] [4, 5, 7]
abbrev f91b : Pc := (.seq f91r0 (.seq f91r1 .ret))
abbrev f91 : Pfn := ⟨4, 58, [.tmp 8], f91b⟩
def f91K : Array (List Nat) := #[[2, 4, 5, 7], [8]]
def f91H : Array (List Nat) := #[[], [4, 5, 7]]
def f91A : Ann := ⟨fun r => f91K.getD r [], fun r => f91H.getD r [], fun r i => ([] : List (Nat × Nat)).contains (r, i)⟩
theorem f91C : compF Go.Proofs.Tryz.prog f91A 91 = some f91 := by kernel_rfl

abbrev f92r0 : Pc := .reg [
 Qd 0 3 (.box 50 2 (tm 0)),
 Qd 1 6 (.mv kF)] [1, 2, 3] []
abbrev f92r1 : Pc := .reg [
 Qd 0 7 (.mv (tm 1)),
 Qd 1 8 (.bin .geq (tm 7) (kz 0)),
 Qd 2 9 (.mv (tm 8)),
 Gt 3 10 9 (.mv (tm 1)),
 Gt 4 11 9 (.fad 1 (tm 3)),
 Gt 5 12 9 (.load false 1 (tm 11)),
 Gt 6 13 9 (.lenL (tm 12)),
 Gt 7 14 9 (.bin .lss (tm 10) (tm 13)),
 Qd 8 15 (.pick (tm 9) (tm 14) kF),
 Qd 9 16 (.mv (tm 15)),
 Gt 10 17 16 (.fad 1 (tm 3)),
 Gt 11 18 16 (.load false 1 (tm 17)),
 Gt 12 19 16 (.mv (tm 1)),
 Gt 13 20 16 (.ixS 1 (tm 18) (tm 19)),
 Gt 14 21 16 (.load false 1 (tm 20)),
 Gt 15 22 16 (.mv (tm 2)),
 Gt 16 23 16 (.call 126 [(tm 21), (tm 22)]),
 Qd 17 24 (.pick (tm 16) (tm 23) kF),
 Qd 18 6 (.mv (tm 24))] [6] [3]
abbrev f92b : Pc := (.seq f92r0 (.seq f92r1 .ret))
abbrev f92 : Pfn := ⟨3, 25, [.tmp 6], f92b⟩
def f92K : Array (List Nat) := #[[1, 2, 3], [6]]
def f92H : Array (List Nat) := #[[], [3]]
def f92A : Ann := ⟨fun r => f92K.getD r [], fun r => f92H.getD r [], fun r i => ([] : List (Nat × Nat)).contains (r, i)⟩
theorem f92C : compF Go.Proofs.Tryz.prog f92A 92 = some f92 := by kernel_rfl

abbrev f93r0 : Pc := .reg [
 Qd 0 3 (.box 142 4 (tm 1)),
 Qd 1 4 (.nilv 3 1),
 Qd 2 5 (.mv kF)] [0, 3] [4, 17]
abbrev f93r1 : Pc := .reg [
 Qd 0 7 (.mv (tm 0)),
 Qd 1 8 (.mkfn 128 [(tm 3)]),
 Qd 2 9 (.call 127 [(tm 7), (tm 8)]),
 Qd 3 6 (.mv (tm 9))] [0, 6] []
abbrev f93r2 : Pc := .reg [
 Qd 0 10 (.mv (tm 6)),
 Qd 1 11 (.bin .lss (tm 10) (kz 0))] [0, 6, 11] []
abbrev f93r3 : Pc := .reg [
 Qd 0 4 (.nilv 3 1),
 Qd 1 5 (.mv kF)] [4, 5] [3]
abbrev f93r4 : Pc := .reg [
 Qd 0 12 (.mv (tm 0)),
 Qd 1 13 (.mv (tm 6)),
 Qd 2 14 (.ixS 5 (tm 12) (tm 13)),
 Qd 3 15 (.fad 4 (tm 14)),
 Qd 4 16 (.load false 1 (tm 15)),
 Qd 5 17 (.call 97 [(tm 16)]),
 Qd 6 4 (.mv (tm 17)),
 Qd 7 5 (.mv kT)] [4, 5] [3]
abbrev f93b : Pc := (.seq f93r0 (.seq f93r1 (.seq (.seq f93r2 (.cond (tm 11) (.seq f93r3 .ret) .skip)) (.seq f93r4 .ret))))
abbrev f93 : Pfn := ⟨2, 18, [.tmp 4, .tmp 5], f93b⟩
def f93K : Array (List Nat) := #[[0, 3], [0, 6], [0, 6, 11], [4, 5], [4, 5]]
def f93H : Array (List Nat) := #[[4, 17], [], [], [3], [3]]
def f93A : Ann := ⟨fun r => f93K.getD r [], fun r => f93H.getD r [], fun r i => ([] : List (Nat × Nat)).contains (r, i)⟩
theorem f93C : compF Go.Proofs.Tryz.prog f93A 93 = some f93 := by kernel_rfl

abbrev f94r0 : Pc := .reg [
 Qd 0 2 (.box 34 2 (tm 0)),
 Qd 1 4 (.nilv 3 1),
 Qd 2 5 (.mv kF)] [1, 2] [4]
abbrev f94r1 : Pc := .reg [
 Qd 0 8 (.load true 2 (tm 2)),
 Qd 1 9 (.mv (tm 1)),
 Qd 2 10 (.lenL (tm 9)),
 Qd 3 11 (.call 116 [(tm 8), (tm 10)]),
 Qd 4 12 (.un .not (tm 11))] [1, 2, 12] []
abbrev f94r2 : Pc := .reg [
 Qd 0 4 (.nilv 3 1),
 Qd 1 5 (.mv kF)] [4, 5] [2]
abbrev f94r3 : Pc := .reg [
 Qd 0 14 (.fad 0 (tm 2)),
 Qd 1 15 (.load false 1 (tm 14)),
 Qd 2 16 (.mv (tm 1)),
 Qd 3 17 (.call 129 [(tm 15), (tm 16)]),
 Qd 4 13 (.mv (tm 17)),
 Qd 5 18 (.ext 0 (tm 13)),
 Qd 6 19 (.ext 1 (tm 13)),
 Qd 7 6 (.mv (tm 18)),
 Qd 8 7 (.mv (tm 19))] [2, 6] []
abbrev f94r4 : Pc := .reg [
 Qd 0 20 (.fad 1 (tm 2)),
 Qd 1 21 (.load false 1 (tm 20)),
 Qd 2 22 (.mv (tm 6)),
 Qd 3 23 (.callq 130 [(tm 22)]),
 Qd 4 24 (.callq 129 [(tm 21), (tm 23)]),
 Qd 5 25 (.ext 0 (tm 24)),
 Qd 6 26 (.ext 1 (tm 24)),
 Qd 7 4 (.mv (tm 25)),
 Qd 8 5 (.mv (tm 26))] [4, 5] [2]
abbrev f94b : Pc := (.seq f94r0 (.seq (.seq f94r1 (.cond (tm 12) (.seq f94r2 .ret) .skip)) (.seq f94r3 (.seq f94r4 .ret))))
abbrev f94 : Pfn := ⟨2, 27, [.tmp 4, .tmp 5], f94b⟩
def f94K : Array (List Nat) := #[[1, 2], [1, 2, 12], [4, 5], [2, 6], [4, 5]]
def f94H : Array (List Nat) := #[[4], [], [2], [], [2]]
def f94A : Ann := ⟨fun r => f94K.getD r [], fun r => f94H.getD r [], fun r i => ([] : List (Nat × Nat)).contains (r, i)⟩
theorem f94C : compF Go.Proofs.Tryz.prog f94A 94 = some f94 := by kernel_rfl

abbrev f95r0 : Pc := .reg [
 Qd 0 4 (.box 142 4 (tm 1)),
 Qd 1 6 (.nilv 176 5),
 Qd 2 7 (.mv kF)] [0, 2, 4] [6, 19, 25]
abbrev f95r1 : Pc := .reg [
 Qd 0 11 (.mv (tm 0)),
 Qd 1 12 (.load true 4 (tm 4)),
 Qd 2 13 (.call 93 [(tm 11), (tm 12)]),
 Qd 3 10 (.mv (tm 13)),
 Qd 4 14 (.ext 0 (tm 10)),
 Qd 5 15 (.ext 1 (tm 10)),
 Qd 6 8 (.mv (tm 14)),
 Qd 7 9 (.mv (tm 15))] [0, 2, 4, 9] []
abbrev f95r2 : Pc := .reg [
 Qd 0 16 (.mv (tm 9))] [0, 2, 4, 16] []
abbrev f95r3 : Pc := .reg [
 Qd 0 17 (.mv (tm 0)),
 Qd 1 6 (.mv (tm 17)),
 Qd 2 7 (.mv kF)] [6, 7] [4]
abbrev f95r4 : Pc := .reg [
 Qd 0 18 (.mv (tm 0)),
 Qd 1 19 (.callo 131 [(tm 18)]),
 Qd 2 20 (.loadB true 4 (tm 4)),
 Qd 3 21 (.mv (tm 2)),
 Qd 4 22 (.callq 97 [(tm 21)]),
 Qd 5 23 (.build [(.t (.i .i64 0)), (.t (.i .i64 0)), (.t (.i .i64 0)), (.t (.i .i64 0)), .nl] [(0, 4, (tm 20)), (4, 1, (tm 22))]),
 Qd 6 24 (.bslT 5 [(tm 23)]),
 Qd 7 25 (.app 176 5 56 (tm 19) (tm 24)),
 Qd 8 6 (.mv (tm 25)),
 Qd 9 7 (.mv kT)] [6, 7] [4]
abbrev f95b : Pc := (.seq f95r0 (.seq (.seq f95r1 (.seq f95r2 (.cond (tm 16) (.seq f95r3 .ret) .skip))) (.seq f95r4 .ret)))
abbrev f95 : Pfn := ⟨3, 26, [.tmp 6, .tmp 7], f95b⟩
def f95K : Array (List Nat) := #[[0, 2, 4], [0, 2, 4, 9], [0, 2, 4, 16], [6, 7], [6, 7]]
def f95H : Array (List Nat) := #[[6, 19, 25], [], [], [4], [4]]
def f95A : Ann := ⟨fun r => f95K.getD r [], fun r => f95H.getD r [], fun r i => ([(4, 1), (4, 2)] : List (Nat × Nat)).contains (r, i)⟩
theorem f95C : compF Go.Proofs.Tryz.prog f95A 95 = some f95 := by kernel_rfl

abbrev f96r0 : Pc := .reg [
 Qd 0 3 (.box 50 2 (tm 0)),
 Qd 1 6 (.mv kF)] [1, 2, 3] []
abbrev f96r1 : Pc := .reg [
 Qd 0 7 (.load true 2 (tm 3)),
 Qd 1 8 (.call 41 [(tm 7)]),
 Qd 2 9 (.mv (tm 8)),
 Gt 3 10 9 (.mv (tm 1)),
 Gt 4 11 9 (.bin .geq (tm 10) (kz 0)),
 Qd 5 12 (.pick (tm 9) (tm 11) kF),
 Qd 6 13 (.mv (tm 12)),
 Gt 7 14 13 (.mv (tm 1)),
 Gt 8 15 13 (.fad 1 (tm 3)),
 Gt 9 16 13 (.load false 1 (tm 15)),
 Gt 10 17 13 (.lenL (tm 16)),
 Gt 11 18 13 (.bin .lss (tm 14) (tm 17)),
 Qd 12 19 (.pick (tm 13) (tm 18) kF),
 Qd 13 20 (.mv (tm 19)),
 Gt 14 21 20 (.mv (tm 2)),
 Gt 15 22 20 (.bin .geq (tm 21) (kz 1)),
 Qd 16 23 (.pick (tm 20) (tm 22) kF),
 Qd 17 24 (.mv (tm 23)),
 Gt 18 25 24 (.mv (tm 2)),
 Gt 19 26 24 (.bin .leq (tm 25) (kz 4)),
 Qd 20 27 (.pick (tm 24) (tm 26) kF),
 Qd 21 28 (.mv (tm 27)),
 Gt 22 29 28 (.fad 0 (tm 3)),
 Gt 23 30 28 (.load false 1 (tm 29)),
 Gt 24 31 28 (.bin .lss (tm 30) (kz 2147483647)),
 Qd 25 32 (.pick (tm 28) (tm 31) kF),
 Qd 26 6 (.mv (tm 32))] [6] [3]
abbrev f96b : Pc := (.seq f96r0 (.seq f96r1 .ret))
abbrev f96 : Pfn := ⟨3, 33, [.tmp 6], f96b⟩
def f96K : Array (List Nat) := #[[1, 2, 3], [6]]
def f96H : Array (List Nat) := #[[], [3]]
def f96A : Ann := ⟨fun r => f96K.getD r [], fun r => f96H.getD r [], fun r i => ([] : List (Nat × Nat)).contains (r, i)⟩
theorem f96C : compF Go.Proofs.Tryz.prog f96A 96 = some f96 := by kernel_rfl

abbrev f97r0 : Pc := .reg [
 Qd 0 2 (.nilv 3 1)] [0] [2, 5, 7]
abbrev f97r1 : Pc := .reg [
 Qd 0 3 (.mv (tm 0)),
 Qd 1 4 (.isnilS false (tm 3))] [0, 4] []
abbrev f97r2 : Pc := .reg [
 Qd 0 2 (.nilv 3 1)] [2] []
abbrev f97r3 : Pc := .reg [
 Qd 0 5 (.bslO 3 1 []),
 Qd 1 6 (.mv (tm 0)),
 Qd 2 7 (.app 3 1 8 (tm 5) (tm 6)),
 Qd 3 2 (.mv (tm 7))] [2] []
abbrev f97b : Pc := (.seq f97r0 (.seq (.seq f97r1 (.cond (tm 4) (.seq f97r2 .ret) .skip)) (.seq f97r3 .ret)))
abbrev f97 : Pfn := ⟨1, 8, [.tmp 2], f97b⟩
def f97K : Array (List Nat) := #[[0], [0, 4], [2], [2]]
def f97H : Array (List Nat) := #[[2, 5, 7], [], [], []]
def f97A : Ann := ⟨fun r => f97K.getD r [], fun r => f97H.getD r [], fun r i => ([(3, 0), (3, 0)] : List (Nat × Nat)).contains (r, i)⟩
theorem f97C : compF Go.Proofs.Tryz.prog f97A 97 = some f97 := by kernel_rfl

abbrev f99r0 : Pc := .reg [
 Qd 0 3 (.box 50 2 (tm 0)),
 Qd 1 6 (.alloc 50 [(.t (.i .i64 0)), .nl])] [1, 2, 3, 6] []
abbrev f99r1 : Pc := .reg [
 Qd 0 8 (.fad 0 (tm 3)),
 Qd 1 9 (.load false 1 (tm 8)),
 Qd 2 10 (.bin .add (tm 9) (kz 1)),
 Qd 3 11 (.fad 1 (tm 3)),
 Qd 4 12 (.load false 1 (tm 11)),
 Qd 5 13 (.callo 44 [(tm 12)]),
 Qd 6 14 (.build [(.t (.i .i64 0)), .nl] [(0, 1, (tm 10)), (1, 1, (tm 13))]),
 Qd 7 7 (.alloc 50 [(.t (.i .i64 0)), .nl]),
 Qn 8 (.store 2 (tm 7) (tm 14))] [1, 2, 6, 7] [3]
abbrev f99r2 : Pc := .reg [
 Qd 0 15 (.fad 1 (tm 7)),
 Qd 1 16 (.load false 1 (tm 15)),
 Qd 2 17 (.mv (tm 1)),
 Qd 3 18 (.mv (tm 2)),
 Qd 4 19 (.ixS 1 (tm 16) (tm 17)),
 Qn 5 (.store 1 (tm 19) (tm 18))] [6, 7] []
abbrev f99r3 : Pc := .reg [
 Qd 0 20 (.load true 2 (tm 7)),
 Qn 1 (.store 2 (tm 6) (tm 20))] [6] [7]
abbrev f99b : Pc := (.seq f99r0 (.seq f99r1 (.seq f99r2 (.seq f99r3 .ret))))
abbrev f99 : Pfn := ⟨3, 21, [.cell 6 true 2], f99b⟩
def f99K : Array (List Nat) := #[[1, 2, 3, 6], [1, 2, 6, 7], [6, 7], [6]]
def f99H : Array (List Nat) := #[[], [3], [], [7]]
def f99A : Ann := ⟨fun r => f99K.getD r [], fun r => f99H.getD r [], fun r i => ([(1, 5)] : List (Nat × Nat)).contains (r, i)⟩
theorem f99C : compF Go.Proofs.Tryz.prog f99A 99 = some f99 := by kernel_rfl

abbrev f100r0 : Pc := .reg [
 Qd 0 4 (.nilv 3 1)] [0, 1] [4]
abbrev f100r1 : Pc := .reg [
 Qd 0 8 (.mv (tm 0)),
 Qd 1 9 (.mv (tm 1)),
 Qd 2 10 (.call 118 [(tm 8), (tm 9)]),
 Qd 3 5 (.mv (tm 10))] [0, 1, 5] []
abbrev f100r2 : Pc := .reg [
 Qd 0 11 (.mv (tm 5)),
 Qd 1 12 (.bin .eql (tm 11) (kz (-1)))] [0, 1, 5, 12] []
abbrev f100r3 : Pc := .reg [
 Qd 0 13 (.mv (tm 0)),
 Qd 1 4 (.mv (tm 13))] [4] []
abbrev f100r4 : Pc := .reg [
 Qd 0 14 (.mv (tm 5)),
 Qd 1 15 (.bin .add (tm 14) (kz 1)),
 Qd 2 6 (.mv (tm 15))] [0, 1, 5, 6] []
abbrev f100r5 : Pc := .reg [
 Qd 0 16 (.mv (tm 6)),
 Qd 1 17 (.mv (tm 0)),
 Qd 2 18 (.lenL (tm 17)),
 Qd 3 19 (.bin .lss (tm 16) (tm 18))] [0, 1, 5, 6, 19] []
abbrev f100r7 : Pc := .reg [
 Qd 0 22 (.mv (tm 0)),
 Qd 1 23 (.mv (tm 6)),
 Qd 2 24 (.ixS 1 (tm 22) (tm 23)),
 Qd 3 25 (.load false 1 (tm 24)),
 Qd 4 7 (.mv (tm 25))] [0, 1, 5, 6, 7] []
abbrev f100r8 : Pc := .reg [
 Qd 0 26 (.mv (tm 1)),
 Qd 1 27 (.mv (tm 7)),
 Qd 2 28 (.callv (tm 26) [(tm 27)]),
 Qd 3 29 (.un .not (tm 28))] [0, 1, 5, 6, 7, 29] []
abbrev f100r9 : Pc := .reg [
 Qd 0 30 (.mv (tm 0)),
 Qd 1 31 (.mv (tm 5)),
 Qd 2 32 (.mv (tm 7)),
 Qd 3 33 (.ixS 1 (tm 30) (tm 31)),
 Qn 4 (.store 1 (tm 33) (tm 32))] [0, 1, 5, 6] []
abbrev f100r10 : Pc := .reg [
 Qd 0 34 (.mv (tm 5)),
 Qd 1 35 (.bin .add (tm 34) (kz 1)),
 Qd 2 5 (.mv (tm 35))] [0, 1, 5, 6] []
abbrev f100r6 : Pc := .reg [
 Qd 0 20 (.mv (tm 6)),
 Qd 1 21 (.bin .add (tm 20) (kz 1)),
 Qd 2 6 (.mv (tm 21))] [0, 1, 5, 6] []
def f100l0 : Pc := (.seq (.seq f100r5 (.cond (tm 19) .skip (.exit 0))) (.seq (.block 1 (.seq f100r7 (.seq f100r8 (.cond (tm 29) (.seq f100r9 f100r10) .skip)))) f100r6))
theorem f100l0e (C : Cfg) (s : St) : evL C f100l0 s = evL C (.seq (.seq f100r5 (.cond (tm 19) .skip (.exit 0))) (.seq (.block 1 (.seq f100r7 (.seq f100r8 (.cond (tm 29) (.seq f100r9 f100r10) .skip)))) f100r6)) s := rfl
abbrev f100r11 : Pc := .reg [
 Qd 0 36 (.mv (tm 0)),
 Qd 1 37 (.mv (tm 5)),
 Qd 2 38 (.sls 1 (tm 36) (some (tm 37)) none),
 Qn 3 (.clr 1 (tm 38))] [0, 5] []
abbrev f100r12 : Pc := .reg [
 Qd 0 39 (.mv (tm 0)),
 Qd 1 40 (.mv (tm 5)),
 Qd 2 41 (.sls 1 (tm 39) none (some (tm 40))),
 Qd 3 4 (.mv (tm 41))] [4] []
abbrev f100b : Pc := (.seq f100r0 (.seq f100r1 (.seq (.seq f100r2 (.cond (tm 12) (.seq f100r3 .ret) .skip)) (.seq (.seq f100r4 (.block 0 (.loop f100l0))) (.seq f100r11 (.seq f100r12 .ret))))))
abbrev f100 : Pfn := ⟨2, 42, [.tmp 4], f100b⟩
def f100K : Array (List Nat) := #[[0, 1], [0, 1, 5], [0, 1, 5, 12], [4], [0, 1, 5, 6], [0, 1, 5, 6, 19], [0, 1, 5, 6], [0, 1, 5, 6, 7], [0, 1, 5, 6, 7, 29], [0, 1, 5, 6], [0, 1, 5, 6], [0, 5], [4]]
def f100H : Array (List Nat) := #[[4], [], [], [], [], [], [], [], [], [], [], [], []]
def f100A : Ann := ⟨fun r => f100K.getD r [], fun r => f100H.getD r [], fun r i => ([] : List (Nat × Nat)).contains (r, i)⟩
theorem f100C : compF Go.Proofs.Tryz.prog f100A 100 = some f100 := by kernel_rfl

abbrev f101r0 : Pc := .reg [
 Qd 0 3 (.mv kF)] [0, 1] []
abbrev f101r1 : Pc := .reg [
 Qd 0 4 (.mv (tm 0)),
 Qd 1 5 (.load false 1 (tm 1)),
 Qd 2 6 (.bin .eql (tm 4) (tm 5)),
 Qd 3 3 (.mv (tm 6))] [3] []
abbrev f101b : Pc := (.seq f101r0 (.seq f101r1 .ret))
abbrev f101 : Pfn := ⟨2, 7, [.tmp 3], f101b⟩
def f101K : Array (List Nat) := #[[0, 1], [3]]
def f101H : Array (List Nat) := #[[], []]
def f101A : Ann := ⟨fun r => f101K.getD r [], fun r => f101H.getD r [], fun r i => ([] : List (Nat × Nat)).contains (r, i)⟩
theorem f101C : compF Go.Proofs.Tryz.prog f101A 101 = some f101 := by kernel_rfl

abbrev f107r0 : Pc := .reg [
 Qd 0 2 (.mv (kz 0)),
 Qd 1 3 (.mv kF)] [0] []
abbrev f107r1 : Pc := .reg [
 Qd 0 7 (.mv (tm 0)),
 Qd 1 8 (.call 138 [(tm 7)]),
 Qd 2 6 (.mv (tm 8)),
 Qd 3 9 (.ext 0 (tm 6)),
 Qd 4 10 (.ext 1 (tm 6)),
 Qd 5 4 (.mv (tm 9)),
 Qd 6 5 (.mv (tm 10))] [0, 4, 5] []
abbrev f107r2 : Pc := .reg [
 Qd 0 11 (.mv (tm 4)),
 Qd 1 12 (.mv (tm 5)),
 Qd 2 13 (.isnilI false (tm 12)),
 Qd 3 14 (.mv (tm 13)),
 Gt 4 15 14 (.mv (tm 4)),
 Gt 5 16 14 (.bin .geq (tm 15) (kz 0)),
 Qd 6 17 (.pick (tm 14) (tm 16) kF),
 Qd 7 18 (.mv (tm 17)),
 Gt 8 19 18 (.mv (tm 0)),
 Gt 9 20 18 (.lenS (tm 19)),
 Gt 10 21 18 (.bin .leq (tm 20) (kz 9)),
 Qd 11 22 (.pick (tm 18) (tm 21) kF),
 Qd 12 23 (.mv (tm 22)),
 Gt 13 24 23 (.mv (tm 4)),
 Gt 14 25 23 (.call 63 [(tm 24)]),
 Gt 15 26 23 (.mv (tm 0)),
 Gt 16 27 23 (.bin .eql (tm 25) (tm 26)),
 Qd 17 28 (.pick (tm 23) (tm 27) kF),
 Qd 18 2 (.mv (tm 11)),
 Qd 19 3 (.mv (tm 28))] [2, 3] []
abbrev f107b : Pc := (.seq f107r0 (.seq f107r1 (.seq f107r2 .ret)))
abbrev f107 : Pfn := ⟨1, 29, [.tmp 2, .tmp 3], f107b⟩
def f107K : Array (List Nat) := #[[0], [0, 4, 5], [2, 3]]
def f107H : Array (List Nat) := #[[], [], []]
def f107A : Ann := ⟨fun r => f107K.getD r [], fun r => f107H.getD r [], fun r i => ([] : List (Nat × Nat)).contains (r, i)⟩
theorem f107C : compF Go.Proofs.Tryz.prog f107A 107 = some f107 := by kernel_rfl

abbrev f109r0 : Pc := .reg [
 Qd 0 4 (.mv (kz 0))] [0, 1] []
abbrev f109r1 : Pc := .reg [
 Qd 0 5 (.mv (kz 0))] [0, 1, 5] []
abbrev f109r2 : Pc := .reg [
 Qd 0 6 (.mv (tm 5)),
 Qd 1 7 (.mv (tm 0)),
 Qd 2 8 (.lenL (tm 7)),
 Qd 3 9 (.bin .lss (tm 6) (tm 8))] [0, 1, 5, 9] []
abbrev f109r4 : Pc := .reg [
 Qd 0 12 (.mv (tm 0)),
 Qd 1 13 (.mv (tm 5)),
 Qd 2 14 (.call 140 [(tm 12), (tm 13)]),
 Qd 3 15 (.mv (tm 1)),
 Qd 4 16 (.bin .eql (tm 14) (tm 15))] [0, 1, 5, 16] []
abbrev f109r5 : Pc := .reg [
 Qd 0 17 (.mv (tm 5)),
 Qd 1 4 (.mv (tm 17))] [4] []
abbrev f109r3 : Pc := .reg [
 Qd 0 10 (.mv (tm 5)),
 Qd 1 11 (.bin .add (tm 10) (kz 1)),
 Qd 2 5 (.mv (tm 11))] [0, 1, 5] []
def f109l0 : Pc := (.seq (.seq f109r2 (.cond (tm 9) .skip (.exit 0))) (.seq (.block 1 (.seq f109r4 (.cond (tm 16) (.seq f109r5 .ret) .skip))) f109r3))
theorem f109l0e (C : Cfg) (s : St) : evL C f109l0 s = evL C (.seq (.seq f109r2 (.cond (tm 9) .skip (.exit 0))) (.seq (.block 1 (.seq f109r4 (.cond (tm 16) (.seq f109r5 .ret) .skip))) f109r3)) s := rfl
abbrev f109r6 : Pc := .reg [
 Qd 0 4 (.mv (kz (-1)))] [4] []
abbrev f109b : Pc := (.seq f109r0 (.seq (.seq f109r1 (.block 0 (.loop f109l0))) (.seq f109r6 .ret)))
abbrev f109 : Pfn := ⟨2, 18, [.tmp 4], f109b⟩
def f109K : Array (List Nat) := #[[0, 1], [0, 1, 5], [0, 1, 5, 9], [0, 1, 5], [0, 1, 5, 16], [4], [4]]
def f109H : Array (List Nat) := #[[], [], [], [], [], [], []]
def f109A : Ann := ⟨fun r => f109K.getD r [], fun r => f109H.getD r [], fun r i => ([] : List (Nat × Nat)).contains (r, i)⟩
theorem f109C : compF Go.Proofs.Tryz.prog f109A 109 = some f109 := by kernel_rfl

abbrev f110r0 : Pc := .reg [
 Qd 0 4 (.mv (kz 0))] [0, 1] []
abbrev f110r1 : Pc := .reg [
 Qd 0 10 (.mv (tm 0)),
 Qd 1 11 (.call 141 [(tm 10)]),
 Qd 2 12 (.mv (tm 1)),
 Qd 3 13 (.call 141 [(tm 12)]),
 Qd 4 5 (.mv (tm 11)),
 Qd 5 6 (.mv (tm 13))] [5, 6] []
abbrev f110r2 : Pc := .reg [
 Qd 0 14 (.mv (tm 5)),
 Qd 1 7 (.mv (kz 0)),
 Qd 2 8 (.mv (tm 14))] [5, 6, 7, 8] []
abbrev f110r3 : Pc := .reg [
 Qd 0 9 (.mv (kz 0))] [5, 6, 7, 8, 9] []
abbrev f110r4 : Pc := .reg [
 Qd 0 15 (.mv (tm 9)),
 Qd 1 16 (.bin .lss (tm 15) (kz 16))] [5, 6, 7, 8, 9, 16] []
abbrev f110r6 : Pc := .reg [
 Qd 0 19 (.mv (tm 7)),
 Qd 1 20 (.bin .mul (kz 2) (tm 19)),
 Qd 2 21 (.mv (tm 8)),
 Qd 3 22 (.bin .mul (kz 2) (tm 21)),
 Qd 4 7 (.mv (tm 20)),
 Qd 5 8 (.mv (tm 22))] [5, 6, 7, 8, 9] []
abbrev f110r7 : Pc := .reg [
 Qd 0 23 (.mv (tm 8)),
 Qd 1 24 (.mv (tm 5)),
 Qd 2 25 (.mv (tm 6)),
 Qd 3 26 (.bin .add (tm 24) (tm 25)),
 Qd 4 27 (.bin .geq (tm 23) (tm 26))] [5, 6, 7, 8, 9, 27] []
abbrev f110r8 : Pc := .reg [
 Qd 0 28 (.mv (tm 7)),
 Qd 1 29 (.bin .add (tm 28) (kz 1)),
 Qd 2 7 (.mv (tm 29))] [5, 6, 7, 8, 9] []
abbrev f110r9 : Pc := .reg [
 Qd 0 30 (.mv (tm 8)),
 Qd 1 31 (.mv (tm 5)),
 Qd 2 32 (.mv (tm 6)),
 Qd 3 33 (.bin .add (tm 31) (tm 32)),
 Qd 4 34 (.bin .sub (tm 30) (tm 33)),
 Qd 5 8 (.mv (tm 34))] [5, 6, 7, 8, 9] []
abbrev f110r5 : Pc := .reg [
 Qd 0 17 (.mv (tm 9)),
 Qd 1 18 (.bin .add (tm 17) (kz 1)),
 Qd 2 9 (.mv (tm 18))] [5, 6, 7, 8, 9] []
def f110l0 : Pc := (.seq (.seq f110r4 (.cond (tm 16) .skip (.exit 0))) (.seq (.block 1 (.seq f110r6 (.seq f110r7 (.cond (tm 27) (.seq f110r8 f110r9) .skip)))) f110r5))
theorem f110l0e (C : Cfg) (s : St) : evL C f110l0 s = evL C (.seq (.seq f110r4 (.cond (tm 16) .skip (.exit 0))) (.seq (.block 1 (.seq f110r6 (.seq f110r7 (.cond (tm 27) (.seq f110r8 f110r9) .skip)))) f110r5)) s := rfl
abbrev f110r10 : Pc := .reg [
 Qd 0 35 (.mv (tm 7)),
 Qd 1 4 (.mv (tm 35))] [4] []
abbrev f110b : Pc := (.seq f110r0 (.seq f110r1 (.seq f110r2 (.seq (.seq f110r3 (.block 0 (.loop f110l0))) (.seq f110r10 .ret)))))
abbrev f110 : Pfn := ⟨2, 36, [.tmp 4], f110b⟩
def f110K : Array (List Nat) := #[[0, 1], [5, 6], [5, 6, 7, 8], [5, 6, 7, 8, 9], [5, 6, 7, 8, 9, 16], [5, 6, 7, 8, 9], [5, 6, 7, 8, 9], [5, 6, 7, 8, 9, 27], [5, 6, 7, 8, 9], [5, 6, 7, 8, 9], [4]]
def f110H : Array (List Nat) := #[[], [], [], [], [], [], [], [], [], [], []]
def f110A : Ann := ⟨fun r => f110K.getD r [], fun r => f110H.getD r [], fun r i => ([] : List (Nat × Nat)).contains (r, i)⟩
theorem f110C : compF Go.Proofs.Tryz.prog f110A 110 = some f110 := by kernel_rfl

abbrev f111r0 : Pc := .reg [
 Qd 0 8 (.mv (kz 0))] [0, 1, 2, 3] []
abbrev f111r1 : Pc := .reg [
 Qd 0 9 (.mv (kz 0))] [0, 1, 2, 3, 9] []
abbrev f111r2 : Pc := .reg [
 Qd 0 10 (.mv (kz 0))] [0, 1, 2, 3, 9, 10] []
abbrev f111r3 : Pc := .reg [
 Qd 0 12 (.mv (tm 10)),
 Qd 1 13 (.mv (tm 1)),
 Qd 2 14 (.bin .leq (tm 12) (tm 13))] [0, 1, 2, 3, 9, 10, 14] []
abbrev f111r5 : Pc := .reg [
 Qd 0 11 (.mv (kz 0))] [0, 1, 2, 3, 9, 10, 11] []
abbrev f111r6 : Pc := .reg [
 Qd 0 17 (.mv (tm 11)),
 Qd 1 18 (.bin .lss (tm 17) (kz 2))] [0, 1, 2, 3, 9, 10, 11, 18] []
abbrev f111r8 : Pc := .reg [
 Qd 0 21 (.mv (tm 0)),
 Qd 1 22 (.mv (tm 10)),
 Qd 2 23 (.mv (tm 11)),
 Qd 3 24 (.ixS 2 (tm 21) (tm 22)),
 Qd 4 25 (.ixA 2 1 (tm 24) (tm 23)),
 Qd 5 26 (.load false 1 (tm 25)),
 Qd 6 27 (.mv (tm 3)),
 Qd 7 28 (.bin .eql (tm 26) (tm 27)),
 Qd 8 29 (.mv (tm 28)),
 Gt 9 30 29 (.mv (tm 10)),
 Gt 10 31 29 (.mv (tm 1)),
 Gt 11 32 29 (.bin .lss (tm 30) (tm 31)),
 Gt 12 33 29 (.mv (tm 32)),
 Gf 13 34 33 (.mv (tm 11)),
 Gf 14 35 33 (.mv (tm 2)),
 Gf 15 36 33 (.bin .lss (tm 34) (tm 35)),
 Gt 16 37 29 (.pick (tm 33) kT (tm 36)),
 Qd 17 38 (.pick (tm 29) (tm 37) kF)] [0, 1, 2, 3, 9, 10, 11, 38] []
abbrev f111r9 : Pc := .reg [
 Qd 0 39 (.mv (tm 9)),
 Qd 1 40 (.bin .add (tm 39) (kz 1)),
 Qd 2 9 (.mv (tm 40))] [0, 1, 2, 3, 9, 10, 11] []
abbrev f111r7 : Pc := .reg [
 Qd 0 19 (.mv (tm 11)),
 Qd 1 20 (.bin .add (tm 19) (kz 1)),
 Qd 2 11 (.mv (tm 20))] [0, 1, 2, 3, 9, 10, 11] []
def f111l0 : Pc := (.seq (.seq f111r6 (.cond (tm 18) .skip (.exit 2))) (.seq (.block 3 (.seq f111r8 (.cond (tm 38) f111r9 .skip))) f111r7))
theorem f111l0e (C : Cfg) (s : St) : evL C f111l0 s = evL C (.seq (.seq f111r6 (.cond (tm 18) .skip (.exit 2))) (.seq (.block 3 (.seq f111r8 (.cond (tm 38) f111r9 .skip))) f111r7)) s := rfl
abbrev f111r4 : Pc := .reg [
 Qd 0 15 (.mv (tm 10)),
 Qd 1 16 (.bin .add (tm 15) (kz 1)),
 Qd 2 10 (.mv (tm 16))] [0, 1, 2, 3, 9, 10] []
def f111l1 : Pc := (.seq (.seq f111r3 (.cond (tm 14) .skip (.exit 0))) (.seq (.block 1 (.seq f111r5 (.block 2 (.loop f111l0)))) f111r4))
theorem f111l1e (C : Cfg) (s : St) : evL C f111l1 s = evL C (.seq (.seq f111r3 (.cond (tm 14) .skip (.exit 0))) (.seq (.block 1 (.seq f111r5 (.block 2 (.loop f111l0)))) f111r4)) s := rfl
abbrev f111r10 : Pc := .reg [
 Qd 0 41 (.mv (tm 9)),
 Qd 1 8 (.mv (tm 41))] [8] []
abbrev f111b : Pc := (.seq f111r0 (.seq f111r1 (.seq (.seq f111r2 (.block 0 (.loop f111l1))) (.seq f111r10 .ret))))
abbrev f111 : Pfn := ⟨4, 42, [.tmp 8], f111b⟩
def f111K : Array (List Nat) := #[[0, 1, 2, 3], [0, 1, 2, 3, 9], [0, 1, 2, 3, 9, 10], [0, 1, 2, 3, 9, 10, 14], [0, 1, 2, 3, 9, 10], [0, 1, 2, 3, 9, 10, 11], [0, 1, 2, 3, 9, 10, 11, 18], [0, 1, 2, 3, 9, 10, 11], [0, 1, 2, 3, 9, 10, 11, 38], [0, 1, 2, 3, 9, 10, 11], [8]]
def f111H : Array (List Nat) := #[[], [], [], [], [], [], [], [], [], [], []]
def f111A : Ann := ⟨fun r => f111K.getD r [], fun r => f111H.getD r [], fun r i => ([] : List (Nat × Nat)).contains (r, i)⟩
theorem f111C : compF Go.Proofs.Tryz.prog f111A 111 = some f111 := by kernel_rfl

abbrev f112r0 : Pc := .reg [
 Qd 0 4 (.mv (kz 0))] [0, 1] []
abbrev f112r1 : Pc := .reg [
 Qd 0 5 (.mv (kz 0))] [0, 1, 5] []
abbrev f112r2 : Pc := .reg [
 Qd 0 6 (.mv (kz 0))] [0, 1, 5, 6] []
abbrev f112r3 : Pc := .reg [
 Qd 0 7 (.mv (tm 6)),
 Qd 1 8 (.mv (tm 0)),
 Qd 2 9 (.lenL (tm 8)),
 Qd 3 10 (.bin .lss (tm 7) (tm 9))] [0, 1, 5, 6, 10] []
abbrev f112r5 : Pc := .reg [
 Qd 0 13 (.mv (tm 5)),
 Qd 1 14 (.mv (tm 0)),
 Qd 2 15 (.mv (tm 6)),
 Qd 3 16 (.ixS 1 (tm 14) (tm 15)),
 Qd 4 17 (.load false 1 (tm 16)),
 Qd 5 18 (.mv (tm 1)),
 Qd 6 19 (.mv (tm 6)),
 Qd 7 20 (.ixS 1 (tm 18) (tm 19)),
 Qd 8 21 (.load false 1 (tm 20)),
 Qd 9 22 (.callq 68 [(tm 17), (tm 21)]),
 Qd 10 23 (.bin .add (tm 13) (tm 22)),
 Qd 11 24 (.callq 67 [(tm 23)]),
 Qd 12 5 (.mv (tm 24))] [0, 1, 5, 6] []
abbrev f112r4 : Pc := .reg [
 Qd 0 11 (.mv (tm 6)),
 Qd 1 12 (.bin .add (tm 11) (kz 1)),
 Qd 2 6 (.mv (tm 12))] [0, 1, 5, 6] []
def f112l0 : Pc := (.seq (.seq f112r3 (.cond (tm 10) .skip (.exit 0))) (.seq (.block 1 f112r5) f112r4))
theorem f112l0e (C : Cfg) (s : St) : evL C f112l0 s = evL C (.seq (.seq f112r3 (.cond (tm 10) .skip (.exit 0))) (.seq (.block 1 f112r5) f112r4)) s := rfl
abbrev f112r6 : Pc := .reg [
 Qd 0 25 (.mv (tm 5)),
 Qd 1 4 (.mv (tm 25))] [4] []
abbrev f112b : Pc := (.seq f112r0 (.seq f112r1 (.seq (.seq f112r2 (.block 0 (.loop f112l0))) (.seq f112r6 .ret))))
abbrev f112 : Pfn := ⟨2, 26, [.tmp 4], f112b⟩
def f112K : Array (List Nat) := #[[0, 1], [0, 1, 5], [0, 1, 5, 6], [0, 1, 5, 6, 10], [0, 1, 5, 6], [0, 1, 5, 6], [4]]
def f112H : Array (List Nat) := #[[], [], [], [], [], [], []]
def f112A : Ann := ⟨fun r => f112K.getD r [], fun r => f112H.getD r [], fun r i => ([] : List (Nat × Nat)).contains (r, i)⟩
theorem f112C : compF Go.Proofs.Tryz.prog f112A 112 = some f112 := by kernel_rfl

abbrev f113r0 : Pc := .reg [
 Qd 0 5 (.box 3 1 (tm 2)),
 Qd 1 6 (.mv kF)] [0, 1, 5] []
abbrev f113r1 : Pc := .reg [
 Qd 0 7 (.mv (tm 0)),
 Qd 1 8 (.lenL (tm 7)),
 Qd 2 9 (.mv (tm 1)),
 Qd 3 10 (.bin .eql (tm 8) (tm 9)),
 Qd 4 11 (.mv (tm 10)),
 Gt 5 12 11 (.mv (tm 0)),
 Gt 6 13 11 (.mkfn 142 [(tm 5)]),
 Gt 7 14 11 (.call 73 [(tm 12), (tm 13)]),
 Gt 8 15 11 (.un .not (tm 14)),
 Qd 9 16 (.pick (tm 11) (tm 15) kF),
 Qd 10 6 (.mv (tm 16))] [6] [5]
abbrev f113b : Pc := (.seq f113r0 (.seq f113r1 .ret))
abbrev f113 : Pfn := ⟨3, 17, [.tmp 6], f113b⟩
def f113K : Array (List Nat) := #[[0, 1, 5], [6]]
def f113H : Array (List Nat) := #[[], [5]]
def f113A : Ann := ⟨fun r => f113K.getD r [], fun r => f113H.getD r [], fun r i => ([] : List (Nat × Nat)).contains (r, i)⟩
theorem f113C : compF Go.Proofs.Tryz.prog f113A 113 = some f113 := by kernel_rfl

abbrev f114r0 : Pc := .reg [
 Qd 0 4 (.mv kF)] [0, 1] []
abbrev f114r1 : Pc := .reg [
 Qd 0 5 (.mv (tm 0)),
 Qd 1 6 (.mv (tm 1)),
 Qd 2 7 (.call 144 [(tm 5), (tm 6)]),
 Qd 3 8 (.bin .geq (tm 7) (kz 0)),
 Qd 4 4 (.mv (tm 8))] [4] []
abbrev f114b : Pc := (.seq f114r0 (.seq f114r1 .ret))
abbrev f114 : Pfn := ⟨2, 9, [.tmp 4], f114b⟩
def f114K : Array (List Nat) := #[[0, 1], [4]]
def f114H : Array (List Nat) := #[[], []]
def f114A : Ann := ⟨fun r => f114K.getD r [], fun r => f114H.getD r [], fun r i => ([] : List (Nat × Nat)).contains (r, i)⟩
theorem f114C : compF Go.Proofs.Tryz.prog f114A 114 = some f114 := by kernel_rfl

abbrev f115r0 : Pc := .reg [
 Qd 0 2 (.box 34 2 (tm 0)),
 Qd 1 3 (.mv kF)] [1, 2] []
abbrev f115r1 : Pc := .reg [
 Qd 0 4 (.load true 2 (tm 2)),
 Qd 1 5 (.load false 1 (tm 1)),
 Qd 2 6 (.call 116 [(tm 4), (tm 5)]),
 Qd 3 7 (.un .not (tm 6)),
 Qd 4 3 (.mv (tm 7))] [3] [2]
abbrev f115b : Pc := (.seq f115r0 (.seq f115r1 .ret))
abbrev f115 : Pfn := ⟨2, 8, [.tmp 3], f115b⟩
def f115K : Array (List Nat) := #[[1, 2], [3]]
def f115H : Array (List Nat) := #[[], [2]]
def f115A : Ann := ⟨fun r => f115K.getD r [], fun r => f115H.getD r [], fun r i => ([] : List (Nat × Nat)).contains (r, i)⟩
theorem f115C : compF Go.Proofs.Tryz.prog f115A 115 = some f115 := by kernel_rfl

abbrev f116r0 : Pc := .reg [
 Qd 0 2 (.box 34 2 (tm 0)),
 Qd 1 4 (.mv kF)] [1, 2] []
abbrev f116r1 : Pc := .reg [
 Qd 0 6 (.fad 0 (tm 2)),
 Qd 1 7 (.load false 1 (tm 6)),
 Qd 2 8 (.lenL (tm 7)),
 Qd 3 5 (.mv (tm 8))] [1, 2, 5] []
abbrev f116r2 : Pc := .reg [
 Qd 0 9 (.mv (tm 1)),
 Qd 1 10 (.bin .geq (tm 9) (kz 1)),
 Qd 2 11 (.mv (tm 10)),
 Gt 3 12 11 (.mv (tm 1)),
 Gt 4 13 11 (.bin .leq (tm 12) (kz 8)),
 Qd 5 14 (.pick (tm 11) (tm 13) kF),
 Qd 6 15 (.mv (tm 14)),
 Gt 7 16 15 (.mv (tm 5)),
 Gt 8 17 15 (.bin .geq (tm 16) (kz 1)),
 Qd 9 18 (.pick (tm 15) (tm 17) kF),
 Qd 10 19 (.mv (tm 18)),
 Gt 11 20 19 (.mv (tm 5)),
 Gt 12 21 19 (.bin .leq (tm 20) (kz 8)),
 Qd 13 22 (.pick (tm 19) (tm 21) kF),
 Qd 14 23 (.mv (tm 22)),
 Gt 15 24 23 (.fad 0 (tm 2)),
 Gt 16 25 23 (.load false 1 (tm 24)),
 Gt 17 26 23 (.mv (tm 5)),
 Gt 18 27 23 (.mv (tm 1)),
 Gt 19 28 23 (.call 113 [(tm 25), (tm 26), (tm 27)]),
 Qd 20 29 (.pick (tm 23) (tm 28) kF),
 Qd 21 30 (.mv (tm 29)),
 Gt 22 31 30 (.fad 1 (tm 2)),
 Gt 23 32 30 (.load false 1 (tm 31)),
 Gt 24 33 30 (.mv (tm 1)),
 Gt 25 34 30 (.mv (tm 5)),
 Gt 26 35 30 (.call 113 [(tm 32), (tm 33), (tm 34)]),
 Qd 27 36 (.pick (tm 30) (tm 35) kF),
 Qd 28 4 (.mv (tm 36))] [4] [2]
abbrev f116b : Pc := (.seq f116r0 (.seq f116r1 (.seq f116r2 .ret)))
abbrev f116 : Pfn := ⟨2, 37, [.tmp 4], f116b⟩
def f116K : Array (List Nat) := #[[1, 2], [1, 2, 5], [4]]
def f116H : Array (List Nat) := #[[], [], [2]]
def f116A : Ann := ⟨fun r => f116K.getD r [], fun r => f116H.getD r [], fun r i => ([] : List (Nat × Nat)).contains (r, i)⟩
theorem f116C : compF Go.Proofs.Tryz.prog f116A 116 = some f116 := by kernel_rfl

abbrev f117r0 : Pc := .reg [
 Qd 0 4 (.mv (kz 0))] [0, 1] []
abbrev f117r1 : Pc := .reg [
 Qd 0 6 (.mv (tm 0)),
 Qd 1 7 (.lenL (tm 6)),
 Qd 2 8 (.mv (kz 0))] [0, 1, 7, 8] []
abbrev f117r2 : Pc := .reg [
 Qd 0 9 (.bin .lss (tm 8) (tm 7))] [0, 1, 7, 8, 9] []
abbrev f117r3 : Pc := .reg [
 Qd 0 10 (.mv (tm 8)),
 Qd 1 5 (.mv (tm 10))] [0, 1, 5, 7, 8] []
abbrev f117r4 : Pc := .reg [
 Qd 0 11 (.mv (tm 1)),
 Qd 1 12 (.mv (tm 0)),
 Qd 2 13 (.mv (tm 5)),
 Qd 3 14 (.ixS 1 (tm 12) (tm 13)),
 Qd 4 15 (.load false 1 (tm 14)),
 Qd 5 16 (.callv (tm 11) [(tm 15)])] [0, 1, 5, 7, 8, 16] []
abbrev f117r5 : Pc := .reg [
 Qd 0 17 (.mv (tm 5)),
 Qd 1 4 (.mv (tm 17))] [4] []
abbrev f117r6 : Pc := .reg [
 Qd 0 18 (.bin .add (tm 8) (kz 1)),
 Qd 1 8 (.mv (tm 18))] [0, 1, 7, 8] []
def f117l0 : Pc := (.seq f117r2 (.seq (.cond (tm 9) .skip (.exit 0)) (.seq (.block 1 (.seq f117r3 (.seq f117r4 (.cond (tm 16) (.seq f117r5 .ret) .skip)))) f117r6)))
theorem f117l0e (C : Cfg) (s : St) : evL C f117l0 s = evL C (.seq f117r2 (.seq (.cond (tm 9) .skip (.exit 0)) (.seq (.block 1 (.seq f117r3 (.seq f117r4 (.cond (tm 16) (.seq f117r5 .ret) .skip)))) f117r6))) s := rfl
abbrev f117r7 : Pc := .reg [
 Qd 0 4 (.mv (kz (-1)))] [4] []
abbrev f117b : Pc := (.seq f117r0 (.seq (.seq f117r1 (.block 0 (.loop f117l0))) (.seq f117r7 .ret)))
abbrev f117 : Pfn := ⟨2, 19, [.tmp 4], f117b⟩
def f117K : Array (List Nat) := #[[0, 1], [0, 1, 7, 8], [0, 1, 7, 8, 9], [0, 1, 5, 7, 8], [0, 1, 5, 7, 8, 16], [4], [0, 1, 7, 8], [4]]
def f117H : Array (List Nat) := #[[], [], [], [], [], [], [], []]
def f117A : Ann := ⟨fun r => f117K.getD r [], fun r => f117H.getD r [], fun r i => ([] : List (Nat × Nat)).contains (r, i)⟩
theorem f117C : compF Go.Proofs.Tryz.prog f117A 117 = some f117 := by kernel_rfl

abbrev f118r0 : Pc := .reg [
 Qd 0 4 (.mv (kz 0))] [0, 1] []
abbrev f118r1 : Pc := .reg [
 Qd 0 6 (.mv (tm 0)),
 Qd 1 7 (.lenL (tm 6)),
 Qd 2 8 (.mv (kz 0))] [0, 1, 7, 8] []
abbrev f118r2 : Pc := .reg [
 Qd 0 9 (.bin .lss (tm 8) (tm 7))] [0, 1, 7, 8, 9] []
abbrev f118r3 : Pc := .reg [
 Qd 0 10 (.mv (tm 8)),
 Qd 1 5 (.mv (tm 10))] [0, 1, 5, 7, 8] []
abbrev f118r4 : Pc := .reg [
 Qd 0 11 (.mv (tm 1)),
 Qd 1 12 (.mv (tm 0)),
 Qd 2 13 (.mv (tm 5)),
 Qd 3 14 (.ixS 1 (tm 12) (tm 13)),
 Qd 4 15 (.load false 1 (tm 14)),
 Qd 5 16 (.callv (tm 11) [(tm 15)])] [0, 1, 5, 7, 8, 16] []
abbrev f118r5 : Pc := .reg [
 Qd 0 17 (.mv (tm 5)),
 Qd 1 4 (.mv (tm 17))] [4] []
abbrev f118r6 : Pc := .reg [
 Qd 0 18 (.bin .add (tm 8) (kz 1)),
 Qd 1 8 (.mv (tm 18))] [0, 1, 7, 8] []
def f118l0 : Pc := (.seq f118r2 (.seq (.cond (tm 9) .skip (.exit 0)) (.seq (.block 1 (.seq f118r3 (.seq f118r4 (.cond (tm 16) (.seq f118r5 .ret) .skip)))) f118r6)))
theorem f118l0e (C : Cfg) (s : St) : evL C f118l0 s = evL C (.seq f118r2 (.seq (.cond (tm 9) .skip (.exit 0)) (.seq (.block 1 (.seq f118r3 (.seq f118r4 (.cond (tm 16) (.seq f118r5 .ret) .skip)))) f118r6))) s := rfl
abbrev f118r7 : Pc := .reg [
 Qd 0 4 (.mv (kz (-1)))] [4] []
abbrev f118b : Pc := (.seq f118r0 (.seq (.seq f118r1 (.block 0 (.loop f118l0))) (.seq f118r7 .ret)))
abbrev f118 : Pfn := ⟨2, 19, [.tmp 4], f118b⟩
def f118K : Array (List Nat) := #[[0, 1], [0, 1, 7, 8], [0, 1, 7, 8, 9], [0, 1, 5, 7, 8], [0, 1, 5, 7, 8, 16], [4], [0, 1, 7, 8], [4]]
def f118H : Array (List Nat) := #[[], [], [], [], [], [], [], []]
def f118A : Ann := ⟨fun r => f118K.getD r [], fun r => f118H.getD r [], fun r i => ([] : List (Nat × Nat)).contains (r, i)⟩
theorem f118C : compF Go.Proofs.Tryz.prog f118A 118 = some f118 := by kernel_rfl

abbrev f119r0 : Pc := .reg [
 Qd 0 4 (.alloc 164 [(.t (.i .i64 0)), (.t (.i .i64 0)), (.t (.i .i64 0)), (.t (.i .i64 0))]),
 Qd 1 5 (.mv kF)] [0, 1, 4] []
abbrev f119r1 : Pc := .reg [
 Qd 0 10 (.mv (tm 0)),
 Qd 1 11 (.mv (tm 1)),
 Qd 2 12 (.call 129 [(tm 10), (tm 11)]),
 Qd 3 9 (.mv (tm 12)),
 Qd 4 13 (.ext 0 (tm 9)),
 Qd 5 14 (.ext 1 (tm 9)),
 Qd 6 6 (.mv (tm 13)),
 Qd 7 7 (.mv (tm 14))] [0, 4, 6, 7] []
abbrev f119r2 : Pc := .reg [
 Qd 0 15 (.mv (tm 7)),
 Qd 1 16 (.un .not (tm 15)),
 Qd 2 17 (.mv (tm 16)),
 Gf 3 18 17 (.mv (tm 0)),
 Gf 4 19 17 (.lenL (tm 18)),
 Gf 5 20 17 (.bin .eql (tm 19) (kz 0)),
 Qd 6 21 (.pick (tm 17) kT (tm 20))] [4, 6, 21] []
abbrev f119r3 : Pc := .reg [
 Qd 0 22 (.build [(.t (.i .i64 0)), (.t (.i .i64 0)), (.t (.i .i64 0)), (.t (.i .i64 0))] []),
 Qn 1 (.store 4 (tm 4) (tm 22)),
 Qd 2 5 (.mv kF)] [4, 5] []
abbrev f119r4 : Pc := .reg [
 Qd 0 23 (.build [(.t (.i .i64 0)), (.t (.i .i64 0)), (.t (.i .i64 0)), (.t (.i .i64 0))] [(2, 1, (kz 65536))]),
 Qd 1 8 (.alloc 164 [(.t (.i .i64 0)), (.t (.i .i64 0)), (.t (.i .i64 0)), (.t (.i .i64 0))]),
 Qn 2 (.store 4 (tm 8) (tm 23))] [4, 6, 8] []
abbrev f119r5 : Pc := .reg [
 Qd 0 25 (.mv (tm 6)),
 Qd 1 26 (.call 145 [(tm 25)]),
 Qd 2 24 (.mv (tm 26)),
 Qd 3 27 (.ext 0 (tm 24)),
 Qd 4 28 (.ext 1 (tm 24)),
 Qd 5 29 (.fad 0 (tm 8)),
 Qn 6 (.store 1 (tm 29) (tm 27)),
 Qd 7 30 (.fad 1 (tm 8)),
 Qn 8 (.store 1 (tm 30) (tm 28))] [4, 6, 8] []
abbrev f119r6 : Pc := .reg [
 Qd 0 31 (.fad 1 (tm 8)),
 Qd 1 32 (.load false 1 (tm 31)),
 Qd 2 33 (.bin .geq (tm 32) (kz 0))] [4, 6, 8, 33] []
abbrev f119r7 : Pc := .reg [
 Qd 0 35 (.mv (tm 6)),
 Qd 1 36 (.fad 0 (tm 8)),
 Qd 2 37 (.load false 1 (tm 36)),
 Qd 3 38 (.ixS 1 (tm 35) (tm 37)),
 Qd 4 39 (.load false 1 (tm 38)),
 Qd 5 40 (.mv (tm 6)),
 Qd 6 41 (.fad 1 (tm 8)),
 Qd 7 42 (.load false 1 (tm 41)),
 Qd 8 43 (.ixS 1 (tm 40) (tm 42)),
 Qd 9 44 (.load false 1 (tm 43)),
 Qd 10 45 (.callq 146 [(tm 39), (tm 44)]),
 Qd 11 34 (.mv (tm 45)),
 Qd 12 46 (.ext 0 (tm 34)),
 Qd 13 47 (.ext 1 (tm 34)),
 Qd 14 48 (.fad 2 (tm 8)),
 Qn 15 (.store 1 (tm 48) (tm 46)),
 Qd 16 49 (.fad 3 (tm 8)),
 Qn 17 (.store 1 (tm 49) (tm 47))] [4, 8] []
abbrev f119r8 : Pc := .reg [
 Qd 0 50 (.load true 4 (tm 8)),
 Qn 1 (.store 4 (tm 4) (tm 50)),
 Qd 2 5 (.mv kT)] [4, 5] [8]
abbrev f119b : Pc := (.seq f119r0 (.seq f119r1 (.seq (.seq f119r2 (.cond (tm 21) (.seq f119r3 .ret) .skip)) (.seq f119r4 (.seq f119r5 (.seq (.seq f119r6 (.cond (tm 33) f119r7 .skip)) (.seq f119r8 .ret)))))))
abbrev f119 : Pfn := ⟨2, 51, [.cell 4 true 4, .tmp 5], f119b⟩
def f119K : Array (List Nat) := #[[0, 1, 4], [0, 4, 6, 7], [4, 6, 21], [4, 5], [4, 6, 8], [4, 6, 8], [4, 6, 8, 33], [4, 8], [4, 5]]
def f119H : Array (List Nat) := #[[], [], [], [], [], [], [], [], [8]]
def f119A : Ann := ⟨fun r => f119K.getD r [], fun r => f119H.getD r [], fun r i => ([] : List (Nat × Nat)).contains (r, i)⟩
theorem f119C : compF Go.Proofs.Tryz.prog f119A 119 = some f119 := by kernel_rfl

abbrev f120r0 : Pc := .reg [
 Qd 0 6 (.nilv 115 2)] [0, 1, 2] [6, 8, 54]
abbrev f120r1 : Pc := .reg [
 Qd 0 14 (.mkm),
 Qd 1 7 (.mv (tm 14))] [0, 1, 2, 7] []
abbrev f120r2 : Pc := .reg [
 Qd 0 8 (.nilv 115 2)] [0, 1, 2, 7, 8] []
abbrev f120r3 : Pc := .reg [
 Qd 0 15 (.mv (tm 0)),
 Qd 1 16 (.lenL (tm 15)),
 Qd 2 17 (.mv (kz 0))] [1, 2, 7, 8, 15, 16, 17] []
abbrev f120r4 : Pc := .reg [
 Qd 0 18 (.bin .lss (tm 17) (tm 16))] [1, 2, 7, 8, 15, 16, 17, 18] []
abbrev f120r5 : Pc := .reg [
 Qd 0 19 (.ixS 2 (tm 15) (tm 17)),
 Qd 1 20 (.load true 2 (tm 19)),
 Qd 2 10 (.alloc 115 [(.t (.i .i64 0)), (.t (.i .i64 0))]),
 Qn 3 (.store 2 (tm 10) (tm 20))] [1, 2, 7, 8, 10, 15, 16, 17] []
abbrev f120r6 : Pc := .reg [
 Qd 0 21 (.build [(.t (.i .i64 0)), (.t (.i .i64 0))] [(0, 1, (kz (-1))), (1, 1, (kz (-1)))]),
 Qd 1 11 (.alloc 115 [(.t (.i .i64 0)), (.t (.i .i64 0))]),
 Qn 2 (.store 2 (tm 11) (tm 21))] [1, 2, 7, 8, 10, 11, 15, 16, 17] []
abbrev f120r7 : Pc := .reg [
 Qd 0 22 (.load true 2 (tm 10)),
 Qd 1 23 (.mv (kz 0))] [1, 2, 7, 8, 11, 15, 16, 17, 22, 23] [10]
abbrev f120r8 : Pc := .reg [
 Qd 0 24 (.bin .lss (tm 23) (kz 2))] [1, 2, 7, 8, 11, 15, 16, 17, 22, 23, 24] []
abbrev f120r9 : Pc := .reg [
 Qd 0 25 (.mv (tm 23)),
 Qd 1 26 (.ixV false 2 1 (tm 22) (tm 23)),
 Qd 2 12 (.mv (tm 25)),
 Qd 3 13 (.mv (tm 26))] [1, 2, 7, 8, 11, 12, 13, 15, 16, 17, 22, 23] []
abbrev f120r10 : Pc := .reg [
 Qd 0 27 (.mv (tm 13)),
 Qd 1 28 (.bin .lss (tm 27) (kz 0)),
 Qd 2 29 (.mv (tm 28)),
 Gf 3 30 29 (.mv (tm 13)),
 Gf 4 31 29 (.mv (tm 1)),
 Gf 5 32 29 (.bin .geq (tm 30) (tm 31)),
 Qd 6 33 (.pick (tm 29) kT (tm 32)),
 Qd 7 34 (.mv (tm 33)),
 Gf 8 35 34 (.mv (tm 7)),
 Gf 9 36 34 (.mv (tm 13)),
 Gf 10 37 34 (.mlk (.t (.i .i64 0)) false (tm 35) (tm 36)),
 Gf 11 38 34 (.mv (tm 2)),
 Gf 12 39 34 (.bin .geq (tm 37) (tm 38)),
 Qd 13 40 (.pick (tm 34) kT (tm 39))] [1, 2, 7, 8, 11, 12, 13, 15, 16, 17, 22, 23, 40] []
abbrev f120r11 : Pc := .reg [
 Qd 0 41 (.mv (tm 12)),
 Qd 1 42 (.mv (tm 7)),
 Qd 2 43 (.mv (tm 13)),
 Qd 3 44 (.mlk (.t (.i .i64 0)) false (tm 42) (tm 43)),
 Qd 4 45 (.ixA 2 1 (tm 11) (tm 41)),
 Qn 5 (.store 1 (tm 45) (tm 44))] [1, 2, 7, 8, 11, 13, 15, 16, 17, 22, 23] []
abbrev f120r12 : Pc := .reg [
 Qd 0 46 (.mv (tm 7)),
 Qd 1 47 (.mv (tm 13)),
 Qd 2 48 (.mlk (.t (.i .i64 0)) false (tm 46) (tm 47)),
 Qd 3 49 (.bin .add (tm 48) (kz 1)),
 Qn 4 (.mup (tm 46) (tm 47) (tm 49))] [1, 2, 7, 8, 11, 15, 16, 17, 22, 23] []
abbrev f120r13 : Pc := .reg [
 Qd 0 50 (.bin .add (tm 23) (kz 1)),
 Qd 1 23 (.mv (tm 50))] [1, 2, 7, 8, 11, 15, 16, 17, 22, 23] []
def f120l0 : Pc := (.seq f120r8 (.seq (.cond (tm 24) .skip (.exit 2)) (.seq (.block 3 (.seq f120r9 (.seq (.seq f120r10 (.cond (tm 40) (.exit 3) .skip)) (.seq f120r11 f120r12)))) f120r13)))
theorem f120l0e (C : Cfg) (s : St) : evL C f120l0 s = evL C (.seq f120r8 (.seq (.cond (tm 24) .skip (.exit 2)) (.seq (.block 3 (.seq f120r9 (.seq (.seq f120r10 (.cond (tm 40) (.exit 3) .skip)) (.seq f120r11 f120r12)))) f120r13))) s := rfl
abbrev f120r14 : Pc := .reg [
 Qd 0 51 (.mv (tm 8)),
 Qd 1 52 (.load true 2 (tm 11)),
 Qd 2 53 (.bslT 2 [(tm 52)]),
 Qd 3 54 (.app 115 2 16 (tm 51) (tm 53)),
 Qd 4 8 (.mv (tm 54))] [1, 2, 7, 8, 15, 16, 17] [11]
abbrev f120r15 : Pc := .reg [
 Qd 0 55 (.bin .add (tm 17) (kz 1)),
 Qd 1 17 (.mv (tm 55))] [1, 2, 7, 8, 15, 16, 17] []
def f120l1 : Pc := (.seq f120r4 (.seq (.cond (tm 18) .skip (.exit 0)) (.seq (.block 1 (.seq f120r5 (.seq f120r6 (.seq (.seq f120r7 (.block 2 (.loop f120l0))) f120r14)))) f120r15)))
theorem f120l1e (C : Cfg) (s : St) : evL C f120l1 s = evL C (.seq f120r4 (.seq (.cond (tm 18) .skip (.exit 0)) (.seq (.block 1 (.seq f120r5 (.seq f120r6 (.seq (.seq f120r7 (.block 2 (.loop f120l0))) f120r14)))) f120r15))) s := rfl
abbrev f120r16 : Pc := .reg [
 Qd 0 56 (.mv (tm 8)),
 Qd 1 6 (.mv (tm 56))] [6] [14]
abbrev f120b : Pc := (.seq f120r0 (.seq f120r1 (.seq f120r2 (.seq (.seq f120r3 (.block 0 (.loop f120l1))) (.seq f120r16 .ret)))))
abbrev f120 : Pfn := ⟨3, 57, [.tmp 6], f120b⟩
def f120K : Array (List Nat) := #[[0, 1, 2], [0, 1, 2, 7], [0, 1, 2, 7, 8], [1, 2, 7, 8, 15, 16, 17], [1, 2, 7, 8, 15, 16, 17, 18], [1, 2, 7, 8, 10, 15, 16, 17], [1, 2, 7, 8, 10, 11, 15, 16, 17], [1, 2, 7, 8, 11, 15, 16, 17, 22, 23], [1, 2, 7, 8, 11, 15, 16, 17, 22, 23, 24], [1, 2, 7, 8, 11, 12, 13, 15, 16, 17, 22, 23], [1, 2, 7, 8, 11, 12, 13, 15, 16, 17, 22, 23, 40], [1, 2, 7, 8, 11, 13, 15, 16, 17, 22, 23], [1, 2, 7, 8, 11, 15, 16, 17, 22, 23], [1, 2, 7, 8, 11, 15, 16, 17, 22, 23], [1, 2, 7, 8, 15, 16, 17], [1, 2, 7, 8, 15, 16, 17], [6]]
def f120H : Array (List Nat) := #[[6, 8, 54], [], [], [], [], [], [], [10], [], [], [], [], [], [], [11], [], [14]]
def f120A : Ann := ⟨fun r => f120K.getD r [], fun r => f120H.getD r [], fun r i => ([] : List (Nat × Nat)).contains (r, i)⟩
theorem f120C : compF Go.Proofs.Tryz.prog f120A 120 = some f120 := by kernel_rfl

abbrev f121r0 : Pc := .reg [
 Qd 0 4 (.mv (kz 0))] [0, 1] []
abbrev f121r1 : Pc := .reg [
 Qd 0 6 (.mv (tm 0)),
 Qd 1 7 (.lenL (tm 6)),
 Qd 2 8 (.mv (kz 0))] [0, 1, 7, 8] []
abbrev f121r2 : Pc := .reg [
 Qd 0 9 (.bin .lss (tm 8) (tm 7))] [0, 1, 7, 8, 9] []
abbrev f121r3 : Pc := .reg [
 Qd 0 10 (.mv (tm 8)),
 Qd 1 5 (.mv (tm 10))] [0, 1, 5, 7, 8] []
abbrev f121r4 : Pc := .reg [
 Qd 0 11 (.mv (tm 1)),
 Qd 1 12 (.mv (tm 0)),
 Qd 2 13 (.mv (tm 5)),
 Qd 3 14 (.ixS 1 (tm 12) (tm 13)),
 Qd 4 15 (.load false 1 (tm 14)),
 Qd 5 16 (.beq false (tm 11) (tm 15))] [0, 1, 5, 7, 8, 16] []
abbrev f121r5 : Pc := .reg [
 Qd 0 17 (.mv (tm 5)),
 Qd 1 4 (.mv (tm 17))] [4] []
abbrev f121r6 : Pc := .reg [
 Qd 0 18 (.bin .add (tm 8) (kz 1)),
 Qd 1 8 (.mv (tm 18))] [0, 1, 7, 8] []
def f121l0 : Pc := (.seq f121r2 (.seq (.cond (tm 9) .skip (.exit 0)) (.seq (.block 1 (.seq f121r3 (.seq f121r4 (.cond (tm 16) (.seq f121r5 .ret) .skip)))) f121r6)))
theorem f121l0e (C : Cfg) (s : St) : evL C f121l0 s = evL C (.seq f121r2 (.seq (.cond (tm 9) .skip (.exit 0)) (.seq (.block 1 (.seq f121r3 (.seq f121r4 (.cond (tm 16) (.seq f121r5 .ret) .skip)))) f121r6))) s := rfl
abbrev f121r7 : Pc := .reg [
 Qd 0 4 (.mv (kz (-1)))] [4] []
abbrev f121b : Pc := (.seq f121r0 (.seq (.seq f121r1 (.block 0 (.loop f121l0))) (.seq f121r7 .ret)))
abbrev f121 : Pfn := ⟨2, 19, [.tmp 4], f121b⟩
def f121K : Array (List Nat) := #[[0, 1], [0, 1, 7, 8], [0, 1, 7, 8, 9], [0, 1, 5, 7, 8], [0, 1, 5, 7, 8, 16], [4], [0, 1, 7, 8], [4]]
def f121H : Array (List Nat) := #[[], [], [], [], [], [], [], []]
def f121A : Ann := ⟨fun r => f121K.getD r [], fun r => f121H.getD r [], fun r i => ([] : List (Nat × Nat)).contains (r, i)⟩
theorem f121C : compF Go.Proofs.Tryz.prog f121A 121 = some f121 := by kernel_rfl

abbrev f122r0 : Pc := .reg [
 Qd 0 3 (.box 31 1 (tm 1)),
 Qd 1 4 (.nilv 3 1),
 Qd 2 5 (.mv kF)] [0, 3] [4]
abbrev f122r1 : Pc := .reg [
 Qd 0 6 (.mv (tm 0)),
 Qd 1 7 (.lenL (tm 6)),
 Qd 2 8 (.load false 1 (tm 3)),
 Qd 3 9 (.lenL (tm 8)),
 Qd 4 10 (.bin .neq (tm 7) (tm 9))] [0, 3, 10] []
abbrev f122r2 : Pc := .reg [
 Qd 0 4 (.nilv 3 1),
 Qd 1 5 (.mv kF)] [4, 5] []
abbrev f122r3 : Pc := .reg [
 Qd 0 11 (.mv (tm 0)),
 Qd 1 12 (.mkfn 148 [(tm 3)]),
 Qd 2 13 (.call 147 [(tm 11), (tm 12)]),
 Qd 3 4 (.mv (tm 13)),
 Qd 4 5 (.mv kT)] [4, 5] []
abbrev f122b : Pc := (.seq f122r0 (.seq (.seq f122r1 (.cond (tm 10) (.seq f122r2 .ret) .skip)) (.seq f122r3 .ret)))
abbrev f122 : Pfn := ⟨2, 14, [.tmp 4, .tmp 5], f122b⟩
def f122K : Array (List Nat) := #[[0, 3], [0, 3, 10], [4, 5], [4, 5]]
def f122H : Array (List Nat) := #[[4], [], [], []]
def f122A : Ann := ⟨fun r => f122K.getD r [], fun r => f122H.getD r [], fun r i => ([] : List (Nat × Nat)).contains (r, i)⟩
theorem f122C : compF Go.Proofs.Tryz.prog f122A 122 = some f122 := by kernel_rfl

abbrev f123r0 : Pc := .reg [
 Qd 0 3 (.box 3 1 (tm 1)),
 Qd 1 4 (.nilv 3 1)] [0, 3] [4]
abbrev f123r1 : Pc := .reg [
 Qd 0 5 (.mv (tm 0)),
 Qd 1 6 (.mkfn 150 [(tm 3)]),
 Qd 2 7 (.call 147 [(tm 5), (tm 6)]),
 Qd 3 4 (.mv (tm 7))] [4] []
abbrev f123b : Pc := (.seq f123r0 (.seq f123r1 .ret))
abbrev f123 : Pfn := ⟨2, 8, [.tmp 4], f123b⟩
def f123K : Array (List Nat) := #[[0, 3], [4]]
def f123H : Array (List Nat) := #[[4], []]
def f123A : Ann := ⟨fun r => f123K.getD r [], fun r => f123H.getD r [], fun r i => ([] : List (Nat × Nat)).contains (r, i)⟩
theorem f123C : compF Go.Proofs.Tryz.prog f123A 123 = some f123 := by kernel_rfl

abbrev f124r0 : Pc := .reg [
 Qd 0 1 (.box 95 11 (tm 0)),
 Qd 1 2 (.nilv 3 1)] [1] [2, 23]
abbrev f124r1 : Pc := .reg [
 Qd 0 3 (.fad 0 (tm 1)),
 Qd 1 4 (.load false 1 (tm 3)),
 Qd 2 5 (.fad 1 (tm 1)),
 Qd 3 6 (.load false 1 (tm 5)),
 Qd 4 7 (.fad 2 (tm 1)),
 Qd 5 8 (.load false 1 (tm 7)),
 Qd 6 9 (.fad 3 (tm 1)),
 Qd 7 10 (.load false 1 (tm 9)),
 Qd 8 11 (.fad 4 (tm 1)),
 Qd 9 12 (.load false 1 (tm 11)),
 Qd 10 13 (.fad 5 (tm 1)),
 Qd 11 14 (.load false 1 (tm 13)),
 Qd 12 15 (.fad 6 (tm 1)),
 Qd 13 16 (.load false 1 (tm 15)),
 Qd 14 17 (.fad 7 (tm 1)),
 Qd 15 18 (.load false 1 (tm 17)),
 Qd 16 19 (.fad 8 (tm 1)),
 Qd 17 20 (.load false 1 (tm 19)),
 Qd 18 21 (.fad 9 (tm 1)),
 Qd 19 22 (.load false 1 (tm 21)),
 Qd 20 23 (.bslO 3 1 [(tm 4), (tm 6), (tm 8), (tm 10), (tm 12), (tm 14), (tm 16), (tm 18), (tm 20), (tm 22)]),
 Qd 21 2 (.mv (tm 23))] [2] [1]
abbrev f124b : Pc := (.seq f124r0 (.seq f124r1 .ret))
abbrev f124 : Pfn := ⟨1, 24, [.tmp 2], f124b⟩
def f124K : Array (List Nat) := #[[1], [2]]
def f124H : Array (List Nat) := #[[2, 23], [1]]
def f124A : Ann := ⟨fun r => f124K.getD r [], fun r => f124H.getD r [], fun r i => ([(1, 20), (1, 20)] : List (Nat × Nat)).contains (r, i)⟩
theorem f124C : compF Go.Proofs.Tryz.prog f124A 124 = some f124 := by kernel_rfl

abbrev f125r0 : Pc := .reg [
 Qd 0 2 (.mv (.c (.t (.s []))))] [0] []
abbrev f125r1 : Pc := .reg [
 Qd 0 3 (.mv (tm 0)),
 Qd 1 4 (.cvi .u8 (tm 3)),
 Qd 2 5 (.mv (tm 0)),
 Qd 3 6 (.bin .shr (tm 5) (.c (.t (.i .u64 8)))),
 Qd 4 7 (.cvi .u8 (tm 6)),
 Qd 5 8 (.mv (tm 0)),
 Qd 6 9 (.bin .shr (tm 8) (.c (.t (.i .u64 16)))),
 Qd 7 10 (.cvi .u8 (tm 9)),
 Qd 8 11 (.mv (tm 0)),
 Qd 9 12 (.bin .shr (tm 11) (.c (.t (.i .u64 24)))),
 Qd 10 13 (.cvi .u8 (tm 12)),
 Qd 11 14 (.bslT 1 [(tm 4), (tm 7), (tm 10), (tm 13)]),
 Qd 12 15 (.cvbs (tm 14)),
 Qd 13 2 (.mv (tm 15))] [2] []
abbrev f125b : Pc := (.seq f125r0 (.seq f125r1 .ret))
abbrev f125 : Pfn := ⟨1, 16, [.tmp 2], f125b⟩
def f125K : Array (List Nat) := #[[0], [2]]
def f125H : Array (List Nat) := #[[], []]
def f125A : Ann := ⟨fun r => f125K.getD r [], fun r => f125H.getD r [], fun r i => ([] : List (Nat × Nat)).contains (r, i)⟩
theorem f125C : compF Go.Proofs.Tryz.prog f125A 125 = some f125 := by kernel_rfl

abbrev f126r0 : Pc := .reg [
 Qd 0 4 (.mv kF)] [0, 1] []
abbrev f126r1 : Pc := .reg [
 Qd 0 5 (.mv (tm 0)),
 Qd 1 6 (.mv (tm 1)),
 Qd 2 7 (.call 152 [(tm 5), (tm 6)]),
 Qd 3 8 (.bin .geq (tm 7) (kz 0)),
 Qd 4 4 (.mv (tm 8))] [4] []
abbrev f126b : Pc := (.seq f126r0 (.seq f126r1 .ret))
abbrev f126 : Pfn := ⟨2, 9, [.tmp 4], f126b⟩
def f126K : Array (List Nat) := #[[0, 1], [4]]
def f126H : Array (List Nat) := #[[], []]
def f126A : Ann := ⟨fun r => f126K.getD r [], fun r => f126H.getD r [], fun r i => ([] : List (Nat × Nat)).contains (r, i)⟩
theorem f126C : compF Go.Proofs.Tryz.prog f126A 126 = some f126 := by kernel_rfl

abbrev f127r0 : Pc := .reg [
 Qd 0 4 (.mv (kz 0))] [0, 1] []
abbrev f127r1 : Pc := .reg [
 Qd 0 6 (.mv (tm 0)),
 Qd 1 7 (.lenL (tm 6)),
 Qd 2 8 (.mv (kz 0))] [0, 1, 7, 8] []
abbrev f127r2 : Pc := .reg [
 Qd 0 9 (.bin .lss (tm 8) (tm 7))] [0, 1, 7, 8, 9] []
abbrev f127r3 : Pc := .reg [
 Qd 0 10 (.mv (tm 8)),
 Qd 1 5 (.mv (tm 10))] [0, 1, 5, 7, 8] []
abbrev f127r4 : Pc := .reg [
 Qd 0 11 (.mv (tm 1)),
 Qd 1 12 (.mv (tm 0)),
 Qd 2 13 (.mv (tm 5)),
 Qd 3 14 (.ixS 5 (tm 12) (tm 13)),
 Qd 4 15 (.load true 5 (tm 14)),
 Qd 5 16 (.callv (tm 11) [(tm 15)])] [0, 1, 5, 7, 8, 16] []
abbrev f127r5 : Pc := .reg [
 Qd 0 17 (.mv (tm 5)),
 Qd 1 4 (.mv (tm 17))] [4] []
abbrev f127r6 : Pc := .reg [
 Qd 0 18 (.bin .add (tm 8) (kz 1)),
 Qd 1 8 (.mv (tm 18))] [0, 1, 7, 8] []
def f127l0 : Pc := (.seq f127r2 (.seq (.cond (tm 9) .skip (.exit 0)) (.seq (.block 1 (.seq f127r3 (.seq f127r4 (.cond (tm 16) (.seq f127r5 .ret) .skip)))) f127r6)))
theorem f127l0e (C : Cfg) (s : St) : evL C f127l0 s = evL C (.seq f127r2 (.seq (.cond (tm 9) .skip (.exit 0)) (.seq (.block 1 (.seq f127r3 (.seq f127r4 (.cond (tm 16) (.seq f127r5 .ret) .skip)))) f127r6))) s := rfl
abbrev f127r7 : Pc := .reg [
 Qd 0 4 (.mv (kz (-1)))] [4] []
abbrev f127b : Pc := (.seq f127r0 (.seq (.seq f127r1 (.block 0 (.loop f127l0))) (.seq f127r7 .ret)))
abbrev f127 : Pfn := ⟨2, 19, [.tmp 4], f127b⟩
def f127K : Array (List Nat) := #[[0, 1], [0, 1, 7, 8], [0, 1, 7, 8, 9], [0, 1, 5, 7, 8], [0, 1, 5, 7, 8, 16], [4], [0, 1, 7, 8], [4]]
def f127H : Array (List Nat) := #[[], [], [], [], [], [], [], []]
def f127A : Ann := ⟨fun r => f127K.getD r [], fun r => f127H.getD r [], fun r i => ([] : List (Nat × Nat)).contains (r, i)⟩
theorem f127C : compF Go.Proofs.Tryz.prog f127A 127 = some f127 := by kernel_rfl

abbrev f128r0 : Pc := .reg [
 Qd 0 2 (.box 176 5 (tm 0)),
 Qd 1 3 (.mv kF)] [1, 2] []
abbrev f128r1 : Pc := .reg [
 Qd 0 4 (.fad 0 (tm 2)),
 Qd 1 5 (.load true 4 (tm 4)),
 Qd 2 6 (.load true 4 (tm 1)),
 Qd 3 7 (.beqS [0, 0, 0, 0] false (tm 5) (tm 6)),
 Qd 4 3 (.mv (tm 7))] [3] [2]
abbrev f128b : Pc := (.seq f128r0 (.seq f128r1 .ret))
abbrev f128 : Pfn := ⟨2, 8, [.tmp 3], f128b⟩
def f128K : Array (List Nat) := #[[1, 2], [3]]
def f128H : Array (List Nat) := #[[], [2]]
def f128A : Ann := ⟨fun r => f128K.getD r [], fun r => f128H.getD r [], fun r i => ([] : List (Nat × Nat)).contains (r, i)⟩
theorem f128C : compF Go.Proofs.Tryz.prog f128A 128 = some f128 := by kernel_rfl

abbrev f129r0 : Pc := .reg [
 Qd 0 4 (.nilv 3 1),
 Qd 1 5 (.mv kF)] [0, 1] [4, 6, 28]
abbrev f129r1 : Pc := .reg [
 Qd 0 6 (.nilv 3 1)] [0, 1, 6] []
abbrev f129r2 : Pc := .reg [
 Qd 0 11 (.mv (tm 0)),
 Qd 1 12 (.lenL (tm 11)),
 Qd 2 13 (.mv (kz 0))] [1, 6, 11, 12, 13] []
abbrev f129r3 : Pc := .reg [
 Qd 0 14 (.bin .lss (tm 13) (tm 12))] [1, 6, 11, 12, 13, 14] []
abbrev f129r4 : Pc := .reg [
 Qd 0 15 (.ixS 1 (tm 11) (tm 13)),
 Qd 1 16 (.load false 1 (tm 15)),
 Qd 2 8 (.mv (tm 16))] [1, 6, 8, 11, 12, 13] []
abbrev f129r5 : Pc := .reg [
 Qd 0 18 (.mv (tm 8)),
 Qd 1 19 (.mv (tm 1)),
 Qd 2 20 (.call 153 [(tm 18), (tm 19)]),
 Qd 3 17 (.mv (tm 20)),
 Qd 4 21 (.ext 0 (tm 17)),
 Qd 5 22 (.ext 1 (tm 17)),
 Qd 6 9 (.mv (tm 21)),
 Qd 7 10 (.mv (tm 22))] [1, 6, 9, 10, 11, 12, 13] []
abbrev f129r6 : Pc := .reg [
 Qd 0 23 (.mv (tm 10)),
 Qd 1 24 (.un .not (tm 23))] [1, 6, 9, 11, 12, 13, 24] []
abbrev f129r7 : Pc := .reg [
 Qd 0 4 (.nilv 3 1),
 Qd 1 5 (.mv kF)] [4, 5] []
abbrev f129r8 : Pc := .reg [
 Qd 0 25 (.mv (tm 6)),
 Qd 1 26 (.mv (tm 9)),
 Qd 2 27 (.bslT 1 [(tm 26)]),
 Qd 3 28 (.app 3 1 8 (tm 25) (tm 27)),
 Qd 4 6 (.mv (tm 28))] [1, 6, 11, 12, 13] []
abbrev f129r9 : Pc := .reg [
 Qd 0 29 (.bin .add (tm 13) (kz 1)),
 Qd 1 13 (.mv (tm 29))] [1, 6, 11, 12, 13] []
def f129l0 : Pc := (.seq f129r3 (.seq (.cond (tm 14) .skip (.exit 0)) (.seq (.block 1 (.seq f129r4 (.seq f129r5 (.seq (.seq f129r6 (.cond (tm 24) (.seq f129r7 .ret) .skip)) f129r8)))) f129r9)))
theorem f129l0e (C : Cfg) (s : St) : evL C f129l0 s = evL C (.seq f129r3 (.seq (.cond (tm 14) .skip (.exit 0)) (.seq (.block 1 (.seq f129r4 (.seq f129r5 (.seq (.seq f129r6 (.cond (tm 24) (.seq f129r7 .ret) .skip)) f129r8)))) f129r9))) s := rfl
abbrev f129r10 : Pc := .reg [
 Qd 0 30 (.mv (tm 6)),
 Qd 1 4 (.mv (tm 30)),
 Qd 2 5 (.mv kT)] [4, 5] []
abbrev f129b : Pc := (.seq f129r0 (.seq f129r1 (.seq (.seq f129r2 (.block 0 (.loop f129l0))) (.seq f129r10 .ret))))
abbrev f129 : Pfn := ⟨2, 31, [.tmp 4, .tmp 5], f129b⟩
def f129K : Array (List Nat) := #[[0, 1], [0, 1, 6], [1, 6, 11, 12, 13], [1, 6, 11, 12, 13, 14], [1, 6, 8, 11, 12, 13], [1, 6, 9, 10, 11, 12, 13], [1, 6, 9, 11, 12, 13, 24], [4, 5], [1, 6, 11, 12, 13], [1, 6, 11, 12, 13], [4, 5]]
def f129H : Array (List Nat) := #[[4, 6, 28], [], [], [], [], [], [], [], [], [], []]
def f129A : Ann := ⟨fun r => f129K.getD r [], fun r => f129H.getD r [], fun r i => ([] : List (Nat × Nat)).contains (r, i)⟩
theorem f129C : compF Go.Proofs.Tryz.prog f129A 129 = some f129 := by kernel_rfl

abbrev f130r0 : Pc := .reg [
 Qd 0 2 (.nilv 3 1)] [0] [2]
abbrev f130r1 : Pc := .reg [
 Qd 0 3 (.mv (tm 0)),
 Qd 1 4 (.call 147 [(tm 3), (.c (.fn 154 []))]),
 Qd 2 2 (.mv (tm 4))] [2] []
abbrev f130b : Pc := (.seq f130r0 (.seq f130r1 .ret))
abbrev f130 : Pfn := ⟨1, 5, [.tmp 2], f130b⟩
def f130K : Array (List Nat) := #[[0], [2]]
def f130H : Array (List Nat) := #[[2], []]
def f130A : Ann := ⟨fun r => f130K.getD r [], fun r => f130H.getD r [], fun r i => ([] : List (Nat × Nat)).contains (r, i)⟩
theorem f130C : compF Go.Proofs.Tryz.prog f130A 130 = some f130 := by kernel_rfl

abbrev f131r0 : Pc := .reg [
 Qd 0 2 (.nilv 176 5)] [0] [2, 5, 7]
abbrev f131r1 : Pc := .reg [
 Qd 0 3 (.mv (tm 0)),
 Qd 1 4 (.isnilS false (tm 3))] [0, 4] []
abbrev f131r2 : Pc := .reg [
 Qd 0 2 (.nilv 176 5)] [2] []
abbrev f131r3 : Pc := .reg [
 Qd 0 5 (.bslO 176 5 []),
 Qd 1 6 (.mv (tm 0)),
 Qd 2 7 (.app 176 5 56 (tm 5) (tm 6)),
 Qd 3 2 (.mv (tm 7))] [2] []
abbrev f131b : Pc := (.seq f131r0 (.seq (.seq f131r1 (.cond (tm 4) (.seq f131r2 .ret) .skip)) (.seq f131r3 .ret)))
abbrev f131 : Pfn := ⟨1, 8, [.tmp 2], f131b⟩
def f131K : Array (List Nat) := #[[0], [0, 4], [2], [2]]
def f131H : Array (List Nat) := #[[2, 5, 7], [], [], []]
def f131A : Ann := ⟨fun r => f131K.getD r [], fun r => f131H.getD r [], fun r i => ([(3, 0), (3, 0)] : List (Nat × Nat)).contains (r, i)⟩
theorem f131C : compF Go.Proofs.Tryz.prog f131A 131 = some f131 := by kernel_rfl

abbrev f140r0 : Pc := .reg [
 Qd 0 4 (.mv (kz 0))] [0, 1] []
abbrev f140r1 : Pc := .reg [
 Qd 0 5 (.mv (kz 0))] [0, 1, 5] []
abbrev f140r2 : Pc := .reg [
 Qd 0 6 (.mv (kz 0))] [0, 1, 5, 6] []
abbrev f140r3 : Pc := .reg [
 Qd 0 7 (.mv (tm 6)),
 Qd 1 8 (.mv (tm 0)),
 Qd 2 9 (.lenL (tm 8)),
 Qd 3 10 (.bin .lss (tm 7) (tm 9))] [0, 1, 5, 6, 10] []
abbrev f140r5 : Pc := .reg [
 Qd 0 13 (.mv (tm 0)),
 Qd 1 14 (.mv (tm 6)),
 Qd 2 15 (.ixS 1 (tm 13) (tm 14)),
 Qd 3 16 (.load false 1 (tm 15)),
 Qd 4 17 (.mv (tm 0)),
 Qd 5 18 (.mv (tm 1)),
 Qd 6 19 (.ixS 1 (tm 17) (tm 18)),
 Qd 7 20 (.load false 1 (tm 19)),
 Qd 8 21 (.bin .gtr (tm 16) (tm 20)),
 Qd 9 22 (.mv (tm 21)),
 Gf 10 23 22 (.mv (tm 0)),
 Gf 11 24 22 (.mv (tm 6)),
 Gf 12 25 22 (.ixS 1 (tm 23) (tm 24)),
 Gf 13 26 22 (.load false 1 (tm 25)),
 Gf 14 27 22 (.mv (tm 0)),
 Gf 15 28 22 (.mv (tm 1)),
 Gf 16 29 22 (.ixS 1 (tm 27) (tm 28)),
 Gf 17 30 22 (.load false 1 (tm 29)),
 Gf 18 31 22 (.bin .eql (tm 26) (tm 30)),
 Gf 19 32 22 (.mv (tm 31)),
 Gt 20 33 32 (.mv (tm 6)),
 Gt 21 34 32 (.mv (tm 1)),
 Gt 22 35 32 (.bin .lss (tm 33) (tm 34)),
 Gf 23 36 22 (.pick (tm 32) (tm 35) kF),
 Qd 24 37 (.pick (tm 22) kT (tm 36))] [0, 1, 5, 6, 37] []
abbrev f140r6 : Pc := .reg [
 Qd 0 38 (.mv (tm 5)),
 Qd 1 39 (.bin .add (tm 38) (kz 1)),
 Qd 2 5 (.mv (tm 39))] [0, 1, 5, 6] []
abbrev f140r4 : Pc := .reg [
 Qd 0 11 (.mv (tm 6)),
 Qd 1 12 (.bin .add (tm 11) (kz 1)),
 Qd 2 6 (.mv (tm 12))] [0, 1, 5, 6] []
def f140l0 : Pc := (.seq (.seq f140r3 (.cond (tm 10) .skip (.exit 0))) (.seq (.block 1 (.seq f140r5 (.cond (tm 37) f140r6 .skip))) f140r4))
theorem f140l0e (C : Cfg) (s : St) : evL C f140l0 s = evL C (.seq (.seq f140r3 (.cond (tm 10) .skip (.exit 0))) (.seq (.block 1 (.seq f140r5 (.cond (tm 37) f140r6 .skip))) f140r4)) s := rfl
abbrev f140r7 : Pc := .reg [
 Qd 0 40 (.mv (tm 5)),
 Qd 1 4 (.mv (tm 40))] [4] []
abbrev f140b : Pc := (.seq f140r0 (.seq f140r1 (.seq (.seq f140r2 (.block 0 (.loop f140l0))) (.seq f140r7 .ret))))
abbrev f140 : Pfn := ⟨2, 41, [.tmp 4], f140b⟩
def f140K : Array (List Nat) := #[[0, 1], [0, 1, 5], [0, 1, 5, 6], [0, 1, 5, 6, 10], [0, 1, 5, 6], [0, 1, 5, 6, 37], [0, 1, 5, 6], [4]]
def f140H : Array (List Nat) := #[[], [], [], [], [], [], [], []]
def f140A : Ann := ⟨fun r => f140K.getD r [], fun r => f140H.getD r [], fun r i => ([] : List (Nat × Nat)).contains (r, i)⟩
theorem f140C : compF Go.Proofs.Tryz.prog f140A 140 = some f140 := by kernel_rfl

abbrev f141r0 : Pc := .reg [
 Qd 0 2 (.mv (kz 0))] [0] []
abbrev f141r1 : Pc := .reg [
 Qd 0 3 (.mv (tm 0)),
 Qd 1 4 (.bin .lss (tm 3) (kz 0))] [0, 4] []
abbrev f141r2 : Pc := .reg [
 Qd 0 2 (.mv (kz 1))] [2] []
abbrev f141r3 : Pc := .reg [
 Qd 0 5 (.mv (tm 0)),
 Qd 1 6 (.bin .gtr (tm 5) (kz 2147483647))] [0, 6] []
abbrev f141r4 : Pc := .reg [
 Qd 0 2 (.mv (kz 2147483648))] [2] []
abbrev f141r5 : Pc := .reg [
 Qd 0 7 (.mv (tm 0)),
 Qd 1 8 (.bin .add (tm 7) (kz 1)),
 Qd 2 2 (.mv (tm 8))] [2] []
abbrev f141b : Pc := (.seq f141r0 (.seq (.seq f141r1 (.cond (tm 4) (.seq f141r2 .ret) .skip)) (.seq (.seq f141r3 (.cond (tm 6) (.seq f141r4 .ret) .skip)) (.seq f141r5 .ret))))
abbrev f141 : Pfn := ⟨1, 9, [.tmp 2], f141b⟩
def f141K : Array (List Nat) := #[[0], [0, 4], [2], [0, 6], [2], [2]]
def f141H : Array (List Nat) := #[[], [], [], [], [], []]
def f141A : Ann := ⟨fun r => f141K.getD r [], fun r => f141H.getD r [], fun r i => ([] : List (Nat × Nat)).contains (r, i)⟩
theorem f141C : compF Go.Proofs.Tryz.prog f141A 141 = some f141 := by kernel_rfl

abbrev f142r0 : Pc := .reg [
 Qd 0 3 (.mv kF)] [0, 1] []
abbrev f142r1 : Pc := .reg [
 Qd 0 4 (.mv (tm 0)),
 Qd 1 5 (.lenL (tm 4)),
 Qd 2 6 (.load false 1 (tm 1)),
 Qd 3 7 (.bin .neq (tm 5) (tm 6)),
 Qd 4 8 (.mv (tm 7)),
 Gf 5 9 8 (.mv (tm 0)),
 Gf 6 10 8 (.call 75 [(tm 9), (.c (.fn 143 []))]),
 Qd 7 11 (.pick (tm 8) kT (tm 10)),
 Qd 8 3 (.mv (tm 11))] [3] []
abbrev f142b : Pc := (.seq f142r0 (.seq f142r1 .ret))
abbrev f142 : Pfn := ⟨2, 12, [.tmp 3], f142b⟩
def f142K : Array (List Nat) := #[[0, 1], [3]]
def f142H : Array (List Nat) := #[[], []]
def f142A : Ann := ⟨fun r => f142K.getD r [], fun r => f142H.getD r [], fun r i => ([] : List (Nat × Nat)).contains (r, i)⟩
theorem f142C : compF Go.Proofs.Tryz.prog f142A 142 = some f142 := by kernel_rfl

abbrev f143r0 : Pc := .reg [
 Qd 0 2 (.mv kF)] [0] []
abbrev f143r1 : Pc := .reg [
 Qd 0 3 (.mv (tm 0)),
 Qd 1 4 (.call 77 [(tm 3)]),
 Qd 2 5 (.mv (tm 0)),
 Qd 3 6 (.bin .neq (tm 4) (tm 5)),
 Qd 4 2 (.mv (tm 6))] [2] []
abbrev f143b : Pc := (.seq f143r0 (.seq f143r1 .ret))
abbrev f143 : Pfn := ⟨1, 7, [.tmp 2], f143b⟩
def f143K : Array (List Nat) := #[[0], [2]]
def f143H : Array (List Nat) := #[[], []]
def f143A : Ann := ⟨fun r => f143K.getD r [], fun r => f143H.getD r [], fun r i => ([] : List (Nat × Nat)).contains (r, i)⟩
theorem f143C : compF Go.Proofs.Tryz.prog f143A 143 = some f143 := by kernel_rfl

abbrev f144r0 : Pc := .reg [
 Qd 0 4 (.mv (kz 0))] [0, 1] []
abbrev f144r1 : Pc := .reg [
 Qd 0 6 (.mv (tm 0)),
 Qd 1 7 (.lenL (tm 6)),
 Qd 2 8 (.mv (kz 0))] [0, 1, 7, 8] []
abbrev f144r2 : Pc := .reg [
 Qd 0 9 (.bin .lss (tm 8) (tm 7))] [0, 1, 7, 8, 9] []
abbrev f144r3 : Pc := .reg [
 Qd 0 10 (.mv (tm 8)),
 Qd 1 5 (.mv (tm 10))] [0, 1, 5, 7, 8] []
abbrev f144r4 : Pc := .reg [
 Qd 0 11 (.mv (tm 1)),
 Qd 1 12 (.mv (tm 0)),
 Qd 2 13 (.mv (tm 5)),
 Qd 3 14 (.ixS 2 (tm 12) (tm 13)),
 Qd 4 15 (.load true 2 (tm 14)),
 Qd 5 16 (.callv (tm 11) [(tm 15)])] [0, 1, 5, 7, 8, 16] []
abbrev f144r5 : Pc := .reg [
 Qd 0 17 (.mv (tm 5)),
 Qd 1 4 (.mv (tm 17))] [4] []
abbrev f144r6 : Pc := .reg [
 Qd 0 18 (.bin .add (tm 8) (kz 1)),
 Qd 1 8 (.mv (tm 18))] [0, 1, 7, 8] []
def f144l0 : Pc := (.seq f144r2 (.seq (.cond (tm 9) .skip (.exit 0)) (.seq (.block 1 (.seq f144r3 (.seq f144r4 (.cond (tm 16) (.seq f144r5 .ret) .skip)))) f144r6)))
theorem f144l0e (C : Cfg) (s : St) : evL C f144l0 s = evL C (.seq f144r2 (.seq (.cond (tm 9) .skip (.exit 0)) (.seq (.block 1 (.seq f144r3 (.seq f144r4 (.cond (tm 16) (.seq f144r5 .ret) .skip)))) f144r6))) s := rfl
abbrev f144r7 : Pc := .reg [
 Qd 0 4 (.mv (kz (-1)))] [4] []
abbrev f144b : Pc := (.seq f144r0 (.seq (.seq f144r1 (.block 0 (.loop f144l0))) (.seq f144r7 .ret)))
abbrev f144 : Pfn := ⟨2, 19, [.tmp 4], f144b⟩
def f144K : Array (List Nat) := #[[0, 1], [0, 1, 7, 8], [0, 1, 7, 8, 9], [0, 1, 5, 7, 8], [0, 1, 5, 7, 8, 16], [4], [0, 1, 7, 8], [4]]
def f144H : Array (List Nat) := #[[], [], [], [], [], [], [], []]
def f144A : Ann := ⟨fun r => f144K.getD r [], fun r => f144H.getD r [], fun r i => ([] : List (Nat × Nat)).contains (r, i)⟩
theorem f144C : compF Go.Proofs.Tryz.prog f144A 144 = some f144 := by kernel_rfl

abbrev f145r0 : Pc := .reg [
 Qd 0 2 (.mv (kz 0)),
 Qd 1 3 (.mv (kz 0))] [0] []
abbrev f145r1 : Pc := .reg [
 Qd 0 5 (.mv (tm 0)),
 Qd 1 6 (.call 177 [(tm 5)]),
 Qd 2 4 (.mv (tm 6))] [0, 4] []
abbrev f145r2 : Pc := .reg [
 Qd 0 7 (.mv (tm 4)),
 Qd 1 8 (.mv (tm 0)),
 Qd 2 9 (.mv (tm 4)),
 Qd 3 10 (.call 178 [(tm 8), (tm 9)]),
 Qd 4 2 (.mv (tm 7)),
 Qd 5 3 (.mv (tm 10))] [2, 3] []
abbrev f145b : Pc := (.seq f145r0 (.seq f145r1 (.seq f145r2 .ret)))
abbrev f145 : Pfn := ⟨1, 11, [.tmp 2, .tmp 3], f145b⟩
def f145K : Array (List Nat) := #[[0], [0, 4], [2, 3]]
def f145H : Array (List Nat) := #[[], [], []]
def f145A : Ann := ⟨fun r => f145K.getD r [], fun r => f145H.getD r [], fun r i => ([] : List (Nat × Nat)).contains (r, i)⟩
theorem f145C : compF Go.Proofs.Tryz.prog f145A 145 = some f145 := by kernel_rfl

abbrev f146r0 : Pc := .reg [
 Qd 0 4 (.mv (kz 0)),
 Qd 1 5 (.mv (kz 0))] [0, 1] []
abbrev f146r1 : Pc := .reg [
 Qd 0 9 (.mv (tm 0)),
 Qd 1 10 (.call 77 [(tm 9)]),
 Qd 2 11 (.mm true [(tm 10), (kz 0)]),
 Qd 3 12 (.bin .add (tm 11) (kz 1)),
 Qd 4 13 (.mv (tm 1)),
 Qd 5 14 (.call 77 [(tm 13)]),
 Qd 6 15 (.mm true [(tm 14), (kz 0)]),
 Qd 7 16 (.bin .add (tm 15) (kz 1)),
 Qd 8 6 (.mv (tm 12)),
 Qd 9 7 (.mv (tm 16))] [6, 7] []
abbrev f146r2 : Pc := .reg [
 Qd 0 17 (.mv (tm 6)),
 Qd 1 18 (.bin .mul (tm 17) (kz 65536)),
 Qd 2 19 (.mv (tm 6)),
 Qd 3 20 (.mv (tm 7)),
 Qd 4 21 (.bin .add (tm 19) (tm 20)),
 Qd 5 22 (.bin .quo (tm 18) (tm 21)),
 Qd 6 8 (.mv (tm 22))] [8] []
abbrev f146r3 : Pc := .reg [
 Qd 0 23 (.mv (tm 8)),
 Qd 1 24 (.mv (tm 8)),
 Qd 2 25 (.bin .sub (kz 65536) (tm 24)),
 Qd 3 4 (.mv (tm 23)),
 Qd 4 5 (.mv (tm 25))] [4, 5] []
abbrev f146b : Pc := (.seq f146r0 (.seq f146r1 (.seq f146r2 (.seq f146r3 .ret))))
abbrev f146 : Pfn := ⟨2, 26, [.tmp 4, .tmp 5], f146b⟩
def f146K : Array (List Nat) := #[[0, 1], [6, 7], [8], [4, 5]]
def f146H : Array (List Nat) := #[[], [], [], []]
def f146A : Ann := ⟨fun r => f146K.getD r [], fun r => f146H.getD r [], fun r i => ([] : List (Nat × Nat)).contains (r, i)⟩
theorem f146C : compF Go.Proofs.Tryz.prog f146A 146 = some f146 := by kernel_rfl

abbrev f147r0 : Pc := .reg [
 Qd 0 4 (.nilv 3 1)] [0, 1] [4, 5, 21]
abbrev f147r1 : Pc := .reg [
 Qd 0 5 (.nilv 3 1)] [0, 1, 5] []
abbrev f147r2 : Pc := .reg [
 Qd 0 8 (.mv (tm 0)),
 Qd 1 9 (.lenL (tm 8)),
 Qd 2 10 (.mv (kz 0))] [1, 5, 8, 9, 10] []
abbrev f147r3 : Pc := .reg [
 Qd 0 11 (.bin .lss (tm 10) (tm 9))] [1, 5, 8, 9, 10, 11] []
abbrev f147r4 : Pc := .reg [
 Qd 0 12 (.mv (tm 10)),
 Qd 1 13 (.ixS 1 (tm 8) (tm 10)),
 Qd 2 14 (.load false 1 (tm 13)),
 Qd 3 6 (.mv (tm 12)),
 Qd 4 7 (.mv (tm 14))] [1, 5, 6, 7, 8, 9, 10] []
abbrev f147r5 : Pc := .reg [
 Qd 0 15 (.mv (tm 5)),
 Qd 1 16 (.mv (tm 1)),
 Qd 2 17 (.mv (tm 6)),
 Qd 3 18 (.mv (tm 7)),
 Qd 4 19 (.callv (tm 16) [(tm 17), (tm 18)]),
 Qd 5 20 (.bslT 1 [(tm 19)]),
 Qd 6 21 (.app 3 1 8 (tm 15) (tm 20)),
 Qd 7 5 (.mv (tm 21))] [1, 5, 8, 9, 10] []
abbrev f147r6 : Pc := .reg [
 Qd 0 22 (.bin .add (tm 10) (kz 1)),
 Qd 1 10 (.mv (tm 22))] [1, 5, 8, 9, 10] []
def f147l0 : Pc := (.seq f147r3 (.seq (.cond (tm 11) .skip (.exit 0)) (.seq (.block 1 (.seq f147r4 f147r5)) f147r6)))
theorem f147l0e (C : Cfg) (s : St) : evL C f147l0 s = evL C (.seq f147r3 (.seq (.cond (tm 11) .skip (.exit 0)) (.seq (.block 1 (.seq f147r4 f147r5)) f147r6))) s := rfl
abbrev f147r7 : Pc := .reg [
 Qd 0 23 (.mv (tm 5)),
 Qd 1 4 (.mv (tm 23))] [4] []
abbrev f147b : Pc := (.seq f147r0 (.seq f147r1 (.seq (.seq f147r2 (.block 0 (.loop f147l0))) (.seq f147r7 .ret))))
abbrev f147 : Pfn := ⟨2, 24, [.tmp 4], f147b⟩
def f147K : Array (List Nat) := #[[0, 1], [0, 1, 5], [1, 5, 8, 9, 10], [1, 5, 8, 9, 10, 11], [1, 5, 6, 7, 8, 9, 10], [1, 5, 8, 9, 10], [1, 5, 8, 9, 10], [4]]
def f147H : Array (List Nat) := #[[4, 5, 21], [], [], [], [], [], [], []]
def f147A : Ann := ⟨fun r => f147K.getD r [], fun r => f147H.getD r [], fun r i => ([] : List (Nat × Nat)).contains (r, i)⟩
theorem f147C : compF Go.Proofs.Tryz.prog f147A 147 = some f147 := by kernel_rfl

abbrev f148r0 : Pc := .reg [
 Qd 0 5 (.mv (kz 0))] [0, 1, 2] []
abbrev f148r1 : Pc := .reg [
 Qd 0 6 (.mv (tm 1)),
 Qd 1 7 (.load false 1 (tm 2)),
 Qd 2 8 (.mv (tm 0)),
 Qd 3 9 (.ixS 1 (tm 7) (tm 8)),
 Qd 4 10 (.load false 1 (tm 9)),
 Qd 5 11 (.call 149 [(tm 6), (tm 10)]),
 Qd 6 5 (.mv (tm 11))] [5] []
abbrev f148b : Pc := (.seq f148r0 (.seq f148r1 .ret))
abbrev f148 : Pfn := ⟨3, 12, [.tmp 5], f148b⟩
def f148K : Array (List Nat) := #[[0, 1, 2], [5]]
def f148H : Array (List Nat) := #[[], []]
def f148A : Ann := ⟨fun r => f148K.getD r [], fun r => f148H.getD r [], fun r i => ([] : List (Nat × Nat)).contains (r, i)⟩
theorem f148C : compF Go.Proofs.Tryz.prog f148A 148 = some f148 := by kernel_rfl

abbrev f149r0 : Pc := .reg [
 Qd 0 4 (.mv (kz 0))] [0, 1] []
abbrev f149r1 : Pc := .reg [
 Qd 0 5 (.mv (tm 0)),
 Qd 1 6 (.call 77 [(tm 5)]),
 Qd 2 7 (.mv (tm 1)),
 Qd 3 8 (.call 77 [(tm 7)]),
 Qd 4 9 (.bin .add (tm 6) (tm 8)),
 Qd 5 10 (.call 77 [(tm 9)]),
 Qd 6 4 (.mv (tm 10))] [4] []
abbrev f149b : Pc := (.seq f149r0 (.seq f149r1 .ret))
abbrev f149 : Pfn := ⟨2, 11, [.tmp 4], f149b⟩
def f149K : Array (List Nat) := #[[0, 1], [4]]
def f149H : Array (List Nat) := #[[], []]
def f149A : Ann := ⟨fun r => f149K.getD r [], fun r => f149H.getD r [], fun r i => ([] : List (Nat × Nat)).contains (r, i)⟩
theorem f149C : compF Go.Proofs.Tryz.prog f149A 149 = some f149 := by kernel_rfl

abbrev f150r0 : Pc := .reg [
 Qd 0 5 (.mv (kz 0))] [1, 2] []
abbrev f150r1 : Pc := .reg [
 Qd 0 6 (.mv (tm 1)),
 Qd 1 7 (.load false 1 (tm 2)),
 Qd 2 8 (.call 151 [(tm 6), (tm 7)]),
 Qd 3 5 (.mv (tm 8))] [5] []
abbrev f150b : Pc := (.seq f150r0 (.seq f150r1 .ret))
abbrev f150 : Pfn := ⟨3, 9, [.tmp 5], f150b⟩
def f150K : Array (List Nat) := #[[1, 2], [5]]
def f150H : Array (List Nat) := #[[], []]
def f150A : Ann := ⟨fun r => f150K.getD r [], fun r => f150H.getD r [], fun r i => ([] : List (Nat × Nat)).contains (r, i)⟩
theorem f150C : compF Go.Proofs.Tryz.prog f150A 150 = some f150 := by kernel_rfl

abbrev f151r0 : Pc := .reg [
 Qd 0 4 (.mv (kz 0))] [0, 1] []
abbrev f151r1 : Pc := .reg [
 Qd 0 5 (.mv (tm 0)),
 Qd 1 6 (.call 77 [(tm 5)]),
 Qd 2 7 (.mv (tm 1)),
 Qd 3 8 (.call 77 [(tm 7)]),
 Qd 4 9 (.bin .mul (tm 6) (tm 8)),
 Qd 5 10 (.bin .quo (tm 9) (kz 65536)),
 Qd 6 11 (.call 77 [(tm 10)]),
 Qd 7 4 (.mv (tm 11))] [4] []
abbrev f151b : Pc := (.seq f151r0 (.seq f151r1 .ret))
abbrev f151 : Pfn := ⟨2, 12, [.tmp 4], f151b⟩
def f151K : Array (List Nat) := #[[0, 1], [4]]
def f151H : Array (List Nat) := #[[], []]
def f151A : Ann := ⟨fun r => f151K.getD r [], fun r => f151H.getD r [], fun r i => ([] : List (Nat × Nat)).contains (r, i)⟩
theorem f151C : compF Go.Proofs.Tryz.prog f151A 151 = some f151 := by kernel_rfl

abbrev f152r0 : Pc := .reg [
 Qd 0 4 (.mv (kz 0))] [0, 1] []
abbrev f152r1 : Pc := .reg [
 Qd 0 6 (.mv (tm 0)),
 Qd 1 7 (.lenL (tm 6)),
 Qd 2 8 (.mv (kz 0))] [0, 1, 7, 8] []
abbrev f152r2 : Pc := .reg [
 Qd 0 9 (.bin .lss (tm 8) (tm 7))] [0, 1, 7, 8, 9] []
abbrev f152r3 : Pc := .reg [
 Qd 0 10 (.mv (tm 8)),
 Qd 1 5 (.mv (tm 10))] [0, 1, 5, 7, 8] []
abbrev f152r4 : Pc := .reg [
 Qd 0 11 (.mv (tm 1)),
 Qd 1 12 (.mv (tm 0)),
 Qd 2 13 (.mv (tm 5)),
 Qd 3 14 (.ixS 1 (tm 12) (tm 13)),
 Qd 4 15 (.load false 1 (tm 14)),
 Qd 5 16 (.bin .eql (tm 11) (tm 15))] [0, 1, 5, 7, 8, 16] []
abbrev f152r5 : Pc := .reg [
 Qd 0 17 (.mv (tm 5)),
 Qd 1 4 (.mv (tm 17))] [4] []
abbrev f152r6 : Pc := .reg [
 Qd 0 18 (.bin .add (tm 8) (kz 1)),
 Qd 1 8 (.mv (tm 18))] [0, 1, 7, 8] []
def f152l0 : Pc := (.seq f152r2 (.seq (.cond (tm 9) .skip (.exit 0)) (.seq (.block 1 (.seq f152r3 (.seq f152r4 (.cond (tm 16) (.seq f152r5 .ret) .skip)))) f152r6)))
theorem f152l0e (C : Cfg) (s : St) : evL C f152l0 s = evL C (.seq f152r2 (.seq (.cond (tm 9) .skip (.exit 0)) (.seq (.block 1 (.seq f152r3 (.seq f152r4 (.cond (tm 16) (.seq f152r5 .ret) .skip)))) f152r6))) s := rfl
abbrev f152r7 : Pc := .reg [
 Qd 0 4 (.mv (kz (-1)))] [4] []
abbrev f152b : Pc := (.seq f152r0 (.seq (.seq f152r1 (.block 0 (.loop f152l0))) (.seq f152r7 .ret)))
abbrev f152 : Pfn := ⟨2, 19, [.tmp 4], f152b⟩
def f152K : Array (List Nat) := #[[0, 1], [0, 1, 7, 8], [0, 1, 7, 8, 9], [0, 1, 5, 7, 8], [0, 1, 5, 7, 8, 16], [4], [0, 1, 7, 8], [4]]
def f152H : Array (List Nat) := #[[], [], [], [], [], [], [], []]
def f152A : Ann := ⟨fun r => f152K.getD r [], fun r => f152H.getD r [], fun r i => ([] : List (Nat × Nat)).contains (r, i)⟩
theorem f152C : compF Go.Proofs.Tryz.prog f152A 152 = some f152 := by kernel_rfl

abbrev f153r0 : Pc := .reg [
 Qd 0 4 (.mv (kz 0)),
 Qd 1 5 (.mv kF)] [0, 1] []
abbrev f153r1 : Pc := .reg [
 Qd 0 9 (.mv (tm 0)),
 Qd 1 10 (.lenL (tm 9)),
 Qd 2 11 (.mv (tm 1)),
 Qd 3 12 (.lenL (tm 11)),
 Qd 4 13 (.bin .neq (tm 10) (tm 12))] [0, 1, 13] []
abbrev f153r2 : Pc := .reg [
 Qd 0 4 (.mv (kz 0)),
 Qd 1 5 (.mv kF)] [4, 5] []
abbrev f153r3 : Pc := .reg [
 Qd 0 6 (.mv (kz 0))] [0, 1, 6] []
abbrev f153r4 : Pc := .reg [
 Qd 0 14 (.mv (tm 0)),
 Qd 1 15 (.lenL (tm 14)),
 Qd 2 16 (.mv (kz 0))] [1, 6, 14, 15, 16] []
abbrev f153r5 : Pc := .reg [
 Qd 0 17 (.bin .lss (tm 16) (tm 15))] [1, 6, 14, 15, 16, 17] []
abbrev f153r6 : Pc := .reg [
 Qd 0 18 (.mv (tm 16)),
 Qd 1 19 (.ixS 1 (tm 14) (tm 16)),
 Qd 2 20 (.load false 1 (tm 19)),
 Qd 3 7 (.mv (tm 18)),
 Qd 4 8 (.mv (tm 20))] [1, 6, 7, 8, 14, 15, 16] []
abbrev f153r7 : Pc := .reg [
 Qd 0 21 (.mv (tm 6)),
 Qd 1 22 (.mv (tm 8)),
 Qd 2 23 (.mv (tm 1)),
 Qd 3 24 (.mv (tm 7)),
 Qd 4 25 (.ixS 1 (tm 23) (tm 24)),
 Qd 5 26 (.load false 1 (tm 25)),
 Qd 6 27 (.call 151 [(tm 22), (tm 26)]),
 Qd 7 28 (.call 149 [(tm 21), (tm 27)]),
 Qd 8 6 (.mv (tm 28))] [1, 6, 14, 15, 16] []
abbrev f153r8 : Pc := .reg [
 Qd 0 29 (.bin .add (tm 16) (kz 1)),
 Qd 1 16 (.mv (tm 29))] [1, 6, 14, 15, 16] []
def f153l0 : Pc := (.seq f153r5 (.seq (.cond (tm 17) .skip (.exit 0)) (.seq (.block 1 (.seq f153r6 f153r7)) f153r8)))
theorem f153l0e (C : Cfg) (s : St) : evL C f153l0 s = evL C (.seq f153r5 (.seq (.cond (tm 17) .skip (.exit 0)) (.seq (.block 1 (.seq f153r6 f153r7)) f153r8))) s := rfl
abbrev f153r9 : Pc := .reg [
 Qd 0 30 (.mv (tm 6)),
 Qd 1 4 (.mv (tm 30)),
 Qd 2 5 (.mv kT)] [4, 5] []
abbrev f153b : Pc := (.seq f153r0 (.seq (.seq f153r1 (.cond (tm 13) (.seq f153r2 .ret) .skip)) (.seq f153r3 (.seq (.seq f153r4 (.block 0 (.loop f153l0))) (.seq f153r9 .ret)))))
abbrev f153 : Pfn := ⟨2, 31, [.tmp 4, .tmp 5], f153b⟩
def f153K : Array (List Nat) := #[[0, 1], [0, 1, 13], [4, 5], [0, 1, 6], [1, 6, 14, 15, 16], [1, 6, 14, 15, 16, 17], [1, 6, 7, 8, 14, 15, 16], [1, 6, 14, 15, 16], [1, 6, 14, 15, 16], [4, 5]]
def f153H : Array (List Nat) := #[[], [], [], [], [], [], [], [], [], []]
def f153A : Ann := ⟨fun r => f153K.getD r [], fun r => f153H.getD r [], fun r i => ([] : List (Nat × Nat)).contains (r, i)⟩
theorem f153C : compF Go.Proofs.Tryz.prog f153A 153 = some f153 := by kernel_rfl

abbrev f154r0 : Pc := .reg [
 Qd 0 4 (.mv (kz 0))] [1] []
abbrev f154r1 : Pc := .reg [
 Qd 0 5 (.mv (tm 1)),
 Qd 1 6 (.call 77 [(tm 5)]),
 Qd 2 7 (.mm true [(tm 6), (kz 0)]),
 Qd 3 4 (.mv (tm 7))] [4] []
abbrev f154b : Pc := (.seq f154r0 (.seq f154r1 .ret))
abbrev f154 : Pfn := ⟨2, 8, [.tmp 4], f154b⟩
def f154K : Array (List Nat) := #[[1], [4]]
def f154H : Array (List Nat) := #[[], []]
def f154A : Ann := ⟨fun r => f154K.getD r [], fun r => f154H.getD r [], fun r i => ([] : List (Nat × Nat)).contains (r, i)⟩
theorem f154C : compF Go.Proofs.Tryz.prog f154A 154 = some f154 := by kernel_rfl

abbrev f177r0 : Pc := .reg [
 Qd 0 2 (.mv (kz 0))] [0] []
abbrev f177r1 : Pc := .reg [
 Qd 0 3 (.mv (tm 0)),
 Qd 1 4 (.call 178 [(tm 3), (kz (-1))]),
 Qd 2 2 (.mv (tm 4))] [2] []
abbrev f177b : Pc := (.seq f177r0 (.seq f177r1 .ret))
abbrev f177 : Pfn := ⟨1, 5, [.tmp 2], f177b⟩
def f177K : Array (List Nat) := #[[0], [2]]
def f177H : Array (List Nat) := #[[], []]
def f177A : Ann := ⟨fun r => f177K.getD r [], fun r => f177H.getD r [], fun r i => ([] : List (Nat × Nat)).contains (r, i)⟩
theorem f177C : compF Go.Proofs.Tryz.prog f177A 177 = some f177 := by kernel_rfl

abbrev f178r0 : Pc := .reg [
 Qd 0 4 (.mv (kz 0))] [0, 1] []
abbrev f178r1 : Pc := .reg [
 Qd 0 5 (.mv (kz (-1)))] [0, 1, 5] []
abbrev f178r2 : Pc := .reg [
 Qd 0 8 (.mv (tm 0)),
 Qd 1 9 (.lenL (tm 8)),
 Qd 2 10 (.mv (kz 0))] [0, 1, 5, 8, 9, 10] []
abbrev f178r3 : Pc := .reg [
 Qd 0 11 (.bin .lss (tm 10) (tm 9))] [0, 1, 5, 8, 9, 10, 11] []
abbrev f178r4 : Pc := .reg [
 Qd 0 12 (.mv (tm 10)),
 Qd 1 13 (.ixS 1 (tm 8) (tm 10)),
 Qd 2 14 (.load false 1 (tm 13)),
 Qd 3 6 (.mv (tm 12)),
 Qd 4 7 (.mv (tm 14))] [0, 1, 5, 6, 7, 8, 9, 10] []
abbrev f178r5 : Pc := .reg [
 Qd 0 15 (.mv (tm 6)),
 Qd 1 16 (.mv (tm 1)),
 Qd 2 17 (.bin .neq (tm 15) (tm 16)),
 Qd 3 18 (.mv (tm 17)),
 Gt 4 19 18 (.mv (tm 5)),
 Gt 5 20 18 (.bin .lss (tm 19) (kz 0)),
 Gt 6 21 18 (.mv (tm 20)),
 Gf 7 22 21 (.mv (tm 7)),
 Gf 8 23 21 (.mv (tm 0)),
 Gf 9 24 21 (.mv (tm 5)),
 Gf 10 25 21 (.ixS 1 (tm 23) (tm 24)),
 Gf 11 26 21 (.load false 1 (tm 25)),
 Gf 12 27 21 (.bin .gtr (tm 22) (tm 26)),
 Gt 13 28 18 (.pick (tm 21) kT (tm 27)),
 Qd 14 29 (.pick (tm 18) (tm 28) kF)] [0, 1, 5, 6, 8, 9, 10, 29] []
abbrev f178r6 : Pc := .reg [
 Qd 0 30 (.mv (tm 6)),
 Qd 1 5 (.mv (tm 30))] [0, 1, 5, 8, 9, 10] []
abbrev f178r7 : Pc := .reg [
 Qd 0 31 (.bin .add (tm 10) (kz 1)),
 Qd 1 10 (.mv (tm 31))] [0, 1, 5, 8, 9, 10] []
def f178l0 : Pc := (.seq f178r3 (.seq (.cond (tm 11) .skip (.exit 0)) (.seq (.block 1 (.seq f178r4 (.seq f178r5 (.cond (tm 29) f178r6 .skip)))) f178r7)))
theorem f178l0e (C : Cfg) (s : St) : evL C f178l0 s = evL C (.seq f178r3 (.seq (.cond (tm 11) .skip (.exit 0)) (.seq (.block 1 (.seq f178r4 (.seq f178r5 (.cond (tm 29) f178r6 .skip)))) f178r7))) s := rfl
abbrev f178r8 : Pc := .reg [
 Qd 0 32 (.mv (tm 5)),
 Qd 1 4 (.mv (tm 32))] [4] []
abbrev f178b : Pc := (.seq f178r0 (.seq f178r1 (.seq (.seq f178r2 (.block 0 (.loop f178l0))) (.seq f178r8 .ret))))
abbrev f178 : Pfn := ⟨2, 33, [.tmp 4], f178b⟩
def f178K : Array (List Nat) := #[[0, 1], [0, 1, 5], [0, 1, 5, 8, 9, 10], [0, 1, 5, 8, 9, 10, 11], [0, 1, 5, 6, 7, 8, 9, 10], [0, 1, 5, 6, 8, 9, 10, 29], [0, 1, 5, 8, 9, 10], [0, 1, 5, 8, 9, 10], [4]]
def f178H : Array (List Nat) := #[[], [], [], [], [], [], [], [], []]
def f178A : Ann := ⟨fun r => f178K.getD r [], fun r => f178H.getD r [], fun r i => ([] : List (Nat × Nat)).contains (r, i)⟩
theorem f178C : compF Go.Proofs.Tryz.prog f178A 178 = some f178 := by kernel_rfl


end Go.Proofs.YtlfjlpleodlkmaaGreatDoor.Pv
