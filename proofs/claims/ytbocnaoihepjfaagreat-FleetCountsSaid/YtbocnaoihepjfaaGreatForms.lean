import Derived.Test.YtbocnaoihepjfaaGreatPevA
import Derived.Test.YtbocnaoihepjfaaGreatPevC
import Derived.Test.YtbocnaoihepjfaaGreatProg
import Derived.KernelRfl
import Derived.Test.YtbocnaoihepjfaaGreatShort
namespace Go.Proofs.YtbocnaoihepjfaaGreat.Pv
open Go Go.Pev
abbrev f3r0 : Pc := .reg [
 Qd 0 3 (.box 24 2 (tm 0)),
 Qd 1 4 (.box 27 2 (tm 1)),
 Qd 2 6 (.mv kF)] [2, 3, 4] []
abbrev f3r1 : Pc := .reg [
 Qd 0 15 (.load true 2 (tm 3)),
 Qd 1 16 (.call 9 [(tm 15)]),
 Qd 2 17 (.un .not (tm 16)),
 Qd 3 18 (.mv (tm 17)),
 Gf 4 19 18 (.fad 1 (tm 4)),
 Gf 5 20 18 (.load false 1 (tm 19)),
 Gf 6 21 18 (.call 10 [(tm 20)]),
 Gf 7 22 18 (.un .not (tm 21)),
 Qd 8 23 (.pick (tm 18) kT (tm 22)),
 Qd 9 24 (.mv (tm 23)),
 Gf 10 25 24 (.mv (tm 2)),
 Gf 11 26 24 (.call 10 [(tm 25)]),
 Gf 12 27 24 (.un .not (tm 26)),
 Qd 13 28 (.pick (tm 24) kT (tm 27))] [2, 3, 4, 28] []
abbrev f3r2 : Pc := .reg [
 Qd 0 29 (.call 11 []),
 Qd 1 6 (.mv (tm 29))] [6] []
abbrev f3r3 : Pc := .reg [
 Qd 0 31 (.load true 2 (tm 3)),
 Qd 1 32 (.load true 2 (tm 4)),
 Qd 2 33 (.mv (tm 2)),
 Qd 3 34 (.call 12 [(tm 31), (tm 32), (tm 33)]),
 Qd 4 30 (.mv (tm 34)),
 Qd 5 35 (.ext 0 (tm 30)),
 Qd 6 36 (.ext 1 (tm 30)),
 Qd 7 7 (.mv (tm 35)),
 Qd 8 8 (.mv (tm 36))] [2, 3, 4, 7, 8] []
abbrev f3r4 : Pc := .reg [
 Qd 0 37 (.load true 2 (tm 4)),
 Qd 1 9 (.alloc 35 [(.t (.i .i64 0)), .nl]),
 Qn 2 (.store 2 (tm 9) (tm 37))] [2, 3, 7, 8, 9] []
abbrev f3r5 : Pc := .reg [
 Qd 0 38 (.load true 2 (tm 3)),
 Qd 1 39 (.load true 2 (tm 9)),
 Qd 2 40 (.mv (tm 2)),
 Qd 3 41 (.call 13 [(tm 38), (tm 39), (tm 40)]),
 Qd 4 42 (.un .not (tm 41))] [2, 3, 7, 8, 9, 42] []
abbrev f3r6 : Pc := .reg [
 Qd 0 43 (.mv (tm 7)),
 Qd 1 44 (.isnilP false (tm 43)),
 Qd 2 45 (.mv (tm 44)),
 Gt 3 46 45 (.mv (tm 8)),
 Gt 4 47 45 (.bin .eql (tm 46) (kz 1)),
 Qd 5 48 (.pick (tm 45) (tm 47) kF),
 Qd 6 49 (.mv (tm 48)),
 Gt 7 50 49 (.call 11 []),
 Qd 8 51 (.pick (tm 49) (tm 50) kF),
 Qd 9 6 (.mv (tm 51))] [6] []
abbrev f3r7 : Pc := .reg [
 Qd 0 52 (.mv (tm 7)),
 Qd 1 53 (.isnilP false (tm 52)),
 Qd 2 54 (.mv (tm 53)),
 Gf 3 55 54 (.mv (tm 8)),
 Gf 4 56 54 (.bin .neq (tm 55) (kz 0)),
 Qd 5 57 (.pick (tm 54) kT (tm 56))] [2, 3, 7, 9, 57] []
abbrev f3r8 : Pc := .reg [
 Qd 0 6 (.mv kF)] [6] []
abbrev f3r9 : Pc := .reg [
 Qd 0 58 (.mv (tm 7)),
 Qd 1 59 (.callq 14 [(tm 58)]),
 Qd 2 60 (.load true 2 (tm 3)),
 Qd 3 61 (.load true 2 (tm 9)),
 Qd 4 62 (.mv (tm 2)),
 Qd 5 63 (.callq 15 [(tm 60), (tm 61), (tm 62)]),
 Qd 6 10 (.mv (tm 59)),
 Qd 7 11 (.mv (tm 63))] [7, 10, 11] []
abbrev f3r10 : Pc := .reg [
 Qd 0 64 (.mv (tm 10)),
 Qd 1 65 (.lenL (tm 64)),
 Qd 2 66 (.mv (tm 11)),
 Qd 3 67 (.lenL (tm 66)),
 Qd 4 68 (.bin .neq (tm 65) (tm 67))] [7, 10, 11, 68] []
abbrev f3r11 : Pc := .reg [
 Qd 0 6 (.mv kF)] [6] []
abbrev f3r12 : Pc := .reg [
 Qd 0 69 (.mv (tm 10)),
 Qd 1 70 (.lenL (tm 69)),
 Qd 2 71 (.mv (kz 0))] [7, 10, 11, 70, 71] []
abbrev f3r13 : Pc := .reg [
 Qd 0 72 (.bin .lss (tm 71) (tm 70))] [7, 10, 11, 70, 71, 72] []
abbrev f3r14 : Pc := .reg [
 Qd 0 73 (.mv (tm 71)),
 Qd 1 12 (.mv (tm 73))] [7, 10, 11, 12, 70, 71] []
abbrev f3r15 : Pc := .reg [
 Qd 0 74 (.mv (tm 10)),
 Qd 1 75 (.mv (tm 12)),
 Qd 2 76 (.ixS 1 (tm 74) (tm 75)),
 Qd 3 77 (.load false 1 (tm 76)),
 Qd 4 78 (.mv (tm 11)),
 Qd 5 79 (.mv (tm 12)),
 Qd 6 80 (.ixS 11 (tm 78) (tm 79)),
 Qd 7 81 (.load true 11 (tm 80)),
 Qd 8 82 (.callq 16 [(tm 81)]),
 Qd 9 83 (.bin .neq (tm 77) (tm 82))] [7, 10, 11, 70, 71, 83] []
abbrev f3r16 : Pc := .reg [
 Qd 0 6 (.mv kF)] [6] []
abbrev f3r17 : Pc := .reg [
 Qd 0 84 (.bin .add (tm 71) (kz 1)),
 Qd 1 71 (.mv (tm 84))] [7, 10, 11, 70, 71] []
def f3l0 : Pc := (.seq f3r13 (.seq (.cond (tm 72) .skip (.exit 0)) (.seq (.block 1 (.seq f3r14 (.seq f3r15 (.cond (tm 83) (.seq f3r16 .ret) .skip)))) f3r17)))
theorem f3l0e (C : Cfg) (s : St) : evL C f3l0 s = evL C (.seq f3r13 (.seq (.cond (tm 72) .skip (.exit 0)) (.seq (.block 1 (.seq f3r14 (.seq f3r15 (.cond (tm 83) (.seq f3r16 .ret) .skip)))) f3r17))) s := rfl
abbrev f3r18 : Pc := .reg [
 Qd 0 86 (.mv (tm 7)),
 Qd 1 87 (.call 17 [(tm 86)]),
 Qd 2 85 (.mv (tm 87)),
 Qd 3 88 (.ext 0 (tm 85)),
 Qd 4 89 (.ext 1 (tm 85)),
 Qd 5 13 (.mv (tm 88)),
 Qd 6 14 (.mv (tm 89))] [7, 14] []
abbrev f3r19 : Pc := .reg [
 Qd 0 90 (.mv (tm 14)),
 Qd 1 91 (.un .not (tm 90)),
 Qd 2 92 (.mv (tm 91)),
 Gt 3 93 92 (.mv (tm 7)),
 Gt 4 94 92 (.call 18 [(tm 93)]),
 Gt 5 95 92 (.bin .eql (tm 94) (kz 0)),
 Qd 6 96 (.pick (tm 92) (tm 95) kF),
 Qd 7 97 (.mv (tm 96)),
 Gt 8 98 97 (.call 11 []),
 Qd 9 99 (.pick (tm 97) (tm 98) kF),
 Qd 10 6 (.mv (tm 99))] [6] []
abbrev f3b : Pc := (.seq f3r0 (.seq (.seq f3r1 (.cond (tm 28) (.seq f3r2 .ret) .skip)) (.seq f3r3 (.seq f3r4 (.seq (.seq f3r5 (.cond (tm 42) (.seq f3r6 .ret) .skip)) (.seq (.seq f3r7 (.cond (tm 57) (.seq f3r8 .ret) .skip)) (.seq f3r9 (.seq (.seq f3r10 (.cond (tm 68) (.seq f3r11 .ret) .skip)) (.seq (.seq f3r12 (.block 0 (.loop f3l0))) (.seq f3r18 (.seq f3r19 .ret)))))))))))
abbrev f3 : Pfn := ⟨3, 100, [.tmp 6], f3b⟩
def f3K : Array (List Nat) := #[[2, 3, 4], [2, 3, 4, 28], [6], [2, 3, 4, 7, 8], [2, 3, 7, 8, 9], [2, 3, 7, 8, 9, 42], [6], [2, 3, 7, 9, 57], [6], [7, 10, 11], [7, 10, 11, 68], [6], [7, 10, 11, 70, 71], [7, 10, 11, 70, 71, 72], [7, 10, 11, 12, 70, 71], [7, 10, 11, 70, 71, 83], [6], [7, 10, 11, 70, 71], [7, 14], [6]]
def f3H : Array (List Nat) := #[[], [], [], [], [], [], [], [], [], [], [], [], [], [], [], [], [], [], [], []]
def f3A : Ann := ⟨fun r => f3K.getD r [], fun r => f3H.getD r [], fun r i => ([] : List (Nat × Nat)).contains (r, i)⟩
theorem f3C : compF Go.Proofs.Tryz.prog f3A 3 = some f3 := by kernel_rfl

abbrev f4r0 : Pc := .reg [
 Qd 0 3 (.box 24 2 (tm 0)),
 Qd 1 4 (.box 27 2 (tm 1)),
 Qd 2 6 (.mv kF)] [2, 3, 4] []
abbrev f4r1 : Pc := .reg [
 Qd 0 15 (.load true 2 (tm 3)),
 Qd 1 16 (.call 9 [(tm 15)]),
 Qd 2 17 (.un .not (tm 16)),
 Qd 3 18 (.mv (tm 17)),
 Gf 4 19 18 (.fad 1 (tm 4)),
 Gf 5 20 18 (.load false 1 (tm 19)),
 Gf 6 21 18 (.call 10 [(tm 20)]),
 Gf 7 22 18 (.un .not (tm 21)),
 Qd 8 23 (.pick (tm 18) kT (tm 22)),
 Qd 9 24 (.mv (tm 23)),
 Gf 10 25 24 (.mv (tm 2)),
 Gf 11 26 24 (.call 10 [(tm 25)]),
 Gf 12 27 24 (.un .not (tm 26)),
 Qd 13 28 (.pick (tm 24) kT (tm 27)),
 Qd 14 29 (.mv (tm 28)),
 Gf 15 30 29 (.load true 2 (tm 3)),
 Gf 16 31 29 (.load true 2 (tm 4)),
 Gf 17 32 29 (.mv (tm 2)),
 Gf 18 33 29 (.call 13 [(tm 30), (tm 31), (tm 32)]),
 Gf 19 34 29 (.un .not (tm 33)),
 Qd 20 35 (.pick (tm 29) kT (tm 34))] [2, 3, 4, 35] []
abbrev f4r2 : Pc := .reg [
 Qd 0 36 (.call 11 []),
 Qd 1 6 (.mv (tm 36))] [6] []
abbrev f4r3 : Pc := .reg [
 Qd 0 38 (.load true 2 (tm 3)),
 Qd 1 39 (.load true 2 (tm 4)),
 Qd 2 40 (.mv (tm 2)),
 Qd 3 41 (.call 12 [(tm 38), (tm 39), (tm 40)]),
 Qd 4 37 (.mv (tm 41)),
 Qd 5 42 (.ext 0 (tm 37)),
 Qd 6 43 (.ext 1 (tm 37)),
 Qd 7 7 (.mv (tm 42)),
 Qd 8 8 (.mv (tm 43))] [2, 3, 7] []
abbrev f4r4 : Pc := .reg [
 Qd 0 44 (.mv (tm 7)),
 Qd 1 45 (.isnilP false (tm 44))] [2, 3, 7, 45] []
abbrev f4r5 : Pc := .reg [
 Qd 0 6 (.mv kF)] [6] []
abbrev f4r6 : Pc := .reg [
 Qd 0 46 (.mv (tm 2)),
 Qd 1 9 (.mv (kz 0)),
 Qd 2 10 (.mv (tm 46))] [3, 7, 9, 10] []
abbrev f4r7 : Pc := .reg [
 Qd 0 47 (.fad 1 (tm 3)),
 Qd 1 48 (.load false 1 (tm 47)),
 Qd 2 49 (.lenL (tm 48)),
 Qd 3 50 (.mv (kz 0))] [3, 7, 9, 10, 49, 50] []
abbrev f4r8 : Pc := .reg [
 Qd 0 51 (.bin .lss (tm 50) (tm 49))] [3, 7, 9, 10, 49, 50, 51] []
abbrev f4r9 : Pc := .reg [
 Qd 0 52 (.mv (tm 50)),
 Qd 1 11 (.mv (tm 52))] [3, 7, 9, 10, 11, 49, 50] []
abbrev f4r10 : Pc := .reg [
 Qd 0 53 (.mv (tm 9)),
 Qd 1 54 (.fad 1 (tm 3)),
 Qd 2 55 (.load false 1 (tm 54)),
 Qd 3 56 (.mv (tm 11)),
 Qd 4 57 (.ixS 3 (tm 55) (tm 56)),
 Qd 5 58 (.load true 3 (tm 57)),
 Qd 6 59 (.mv (tm 10)),
 Qd 7 60 (.call 19 [(tm 58), (tm 59)]),
 Qd 8 61 (.lenL (tm 60)),
 Qd 9 62 (.bin .add (tm 53) (tm 61)),
 Qd 10 9 (.mv (tm 62))] [3, 7, 9, 10, 11, 49, 50] []
abbrev f4r11 : Pc := .reg [
 Qd 0 63 (.fad 0 (tm 3)),
 Qd 1 64 (.load false 1 (tm 63)),
 Qd 2 65 (.fad 1 (tm 3)),
 Qd 3 66 (.load false 1 (tm 65)),
 Qd 4 67 (.mv (tm 11)),
 Qd 5 68 (.mv (tm 11)),
 Qd 6 69 (.bin .add (tm 68) (kz 1)),
 Qd 7 70 (.sls 3 (tm 66) (some (tm 67)) (some (tm 69))),
 Qd 8 71 (.build [(.t (.i .i64 0)), .nl] [(0, 1, (tm 64)), (1, 1, (tm 70))]),
 Qd 9 72 (.mv (tm 10)),
 Qd 10 73 (.callq 20 [(tm 71), (tm 72)]),
 Qd 11 10 (.mv (tm 73))] [3, 7, 9, 10, 49, 50] []
abbrev f4r12 : Pc := .reg [
 Qd 0 74 (.bin .add (tm 50) (kz 1)),
 Qd 1 50 (.mv (tm 74))] [3, 7, 9, 10, 49, 50] []
def f4l0 : Pc := (.seq f4r8 (.seq (.cond (tm 51) .skip (.exit 0)) (.seq (.block 1 (.seq f4r9 (.seq f4r10 f4r11))) f4r12)))
theorem f4l0e (C : Cfg) (s : St) : evL C f4l0 s = evL C (.seq f4r8 (.seq (.cond (tm 51) .skip (.exit 0)) (.seq (.block 1 (.seq f4r9 (.seq f4r10 f4r11))) f4r12))) s := rfl
abbrev f4r13 : Pc := .reg [
 Qd 0 12 (.mv (kz 0))] [7, 9, 10, 12] []
abbrev f4r14 : Pc := .reg [
 Qd 0 75 (.mv (tm 12)),
 Qd 1 76 (.bin .lss (tm 75) (kz 1000)),
 Qd 2 77 (.mv (tm 76)),
 Gt 3 78 77 (.mv (tm 7)),
 Gt 4 79 77 (.call 21 [(tm 78), (kz 0)]),
 Gt 5 80 77 (.bin .eql (tm 79) (kz 0)),
 Qd 6 81 (.pick (tm 77) (tm 80) kF)] [7, 9, 10, 12, 81] []
abbrev f4r15 : Pc := .reg [
 Qd 0 82 (.mv (tm 12)),
 Qd 1 83 (.bin .add (tm 82) (kz 1)),
 Qd 2 12 (.mv (tm 83))] [7, 9, 10, 12] []
def f4l1 : Pc := (.seq (.seq f4r14 (.cond (tm 81) .skip (.exit 2))) (.block 3 f4r15))
theorem f4l1e (C : Cfg) (s : St) : evL C f4l1 s = evL C (.seq (.seq f4r14 (.cond (tm 81) .skip (.exit 2))) (.block 3 f4r15)) s := rfl
abbrev f4r16 : Pc := .reg [
 Qd 0 85 (.mv (tm 7)),
 Qd 1 86 (.call 17 [(tm 85)]),
 Qd 2 84 (.mv (tm 86)),
 Qd 3 87 (.ext 0 (tm 84)),
 Qd 4 88 (.ext 1 (tm 84)),
 Qd 5 13 (.mv (tm 87)),
 Qd 6 14 (.mv (tm 88))] [7, 9, 10, 12, 13, 14] []
abbrev f4r17 : Pc := .reg [
 Qd 0 89 (.mv (tm 14)),
 Qd 1 90 (.mv (tm 89)),
 Gt 2 91 90 (.mv (tm 13)),
 Gt 3 92 90 (.mv (tm 10)),
 Gt 4 93 90 (.call 22 [(tm 91), (tm 92)]),
 Qd 5 94 (.pick (tm 90) (tm 93) kF),
 Qd 6 95 (.mv (tm 94)),
 Gt 7 96 95 (.mv (tm 7)),
 Gt 8 97 95 (.call 18 [(tm 96)]),
 Gt 9 98 95 (.mv (tm 9)),
 Gt 10 99 95 (.bin .eql (tm 97) (tm 98)),
 Qd 11 100 (.pick (tm 95) (tm 99) kF),
 Qd 12 101 (.mv (tm 100)),
 Gt 13 102 101 (.mv (tm 12)),
 Gt 14 103 101 (.mv (tm 9)),
 Gt 15 104 101 (.bin .mul (kz 2) (tm 103)),
 Gt 16 105 101 (.bin .eql (tm 102) (tm 104)),
 Qd 17 106 (.pick (tm 101) (tm 105) kF),
 Qd 18 107 (.mv (tm 106)),
 Gt 19 108 107 (.call 11 []),
 Qd 20 109 (.pick (tm 107) (tm 108) kF),
 Qd 21 6 (.mv (tm 109))] [6] []
abbrev f4b : Pc := (.seq f4r0 (.seq (.seq f4r1 (.cond (tm 35) (.seq f4r2 .ret) .skip)) (.seq f4r3 (.seq (.seq f4r4 (.cond (tm 45) (.seq f4r5 .ret) .skip)) (.seq f4r6 (.seq (.seq f4r7 (.block 0 (.loop f4l0))) (.seq f4r13 (.seq (.block 2 (.loop f4l1)) (.seq f4r16 (.seq f4r17 .ret))))))))))
abbrev f4 : Pfn := ⟨3, 110, [.tmp 6], f4b⟩
def f4K : Array (List Nat) := #[[2, 3, 4], [2, 3, 4, 35], [6], [2, 3, 7], [2, 3, 7, 45], [6], [3, 7, 9, 10], [3, 7, 9, 10, 49, 50], [3, 7, 9, 10, 49, 50, 51], [3, 7, 9, 10, 11, 49, 50], [3, 7, 9, 10, 11, 49, 50], [3, 7, 9, 10, 49, 50], [3, 7, 9, 10, 49, 50], [7, 9, 10, 12], [7, 9, 10, 12, 81], [7, 9, 10, 12], [7, 9, 10, 12, 13, 14], [6]]
def f4H : Array (List Nat) := #[[], [], [], [], [], [], [], [], [], [], [], [], [], [], [], [], [], []]
def f4A : Ann := ⟨fun r => f4K.getD r [], fun r => f4H.getD r [], fun r i => ([] : List (Nat × Nat)).contains (r, i)⟩
theorem f4C : compF Go.Proofs.Tryz.prog f4A 4 = some f4 := by kernel_rfl

abbrev f5r0 : Pc := .reg [
 Qd 0 5 (.box 24 2 (tm 0)),
 Qd 1 6 (.box 27 2 (tm 1)),
 Qd 2 10 (.mv kF)] [2, 3, 4, 5, 6] []
abbrev f5r1 : Pc := .reg [
 Qd 0 22 (.load true 2 (tm 5)),
 Qd 1 23 (.call 9 [(tm 22)]),
 Qd 2 24 (.un .not (tm 23)),
 Qd 3 25 (.mv (tm 24)),
 Gf 4 26 25 (.fad 1 (tm 6)),
 Gf 5 27 25 (.load false 1 (tm 26)),
 Gf 6 28 25 (.call 10 [(tm 27)]),
 Gf 7 29 25 (.un .not (tm 28)),
 Qd 8 30 (.pick (tm 25) kT (tm 29)),
 Qd 9 31 (.mv (tm 30)),
 Gf 10 32 31 (.mv (tm 2)),
 Gf 11 33 31 (.call 10 [(tm 32)]),
 Gf 12 34 31 (.un .not (tm 33)),
 Qd 13 35 (.pick (tm 31) kT (tm 34)),
 Qd 14 36 (.mv (tm 35)),
 Gf 15 37 36 (.load true 2 (tm 5)),
 Gf 16 38 36 (.load true 2 (tm 6)),
 Gf 17 39 36 (.mv (tm 2)),
 Gf 18 40 36 (.call 13 [(tm 37), (tm 38), (tm 39)]),
 Gf 19 41 36 (.un .not (tm 40)),
 Qd 20 42 (.pick (tm 36) kT (tm 41))] [2, 3, 4, 5, 6, 42] []
abbrev f5r2 : Pc := .reg [
 Qd 0 43 (.call 11 []),
 Qd 1 10 (.mv (tm 43))] [10] []
abbrev f5r3 : Pc := .reg [
 Qd 0 45 (.load true 2 (tm 5)),
 Qd 1 46 (.load true 2 (tm 6)),
 Qd 2 47 (.mv (tm 2)),
 Qd 3 48 (.call 12 [(tm 45), (tm 46), (tm 47)]),
 Qd 4 44 (.mv (tm 48)),
 Qd 5 49 (.ext 0 (tm 44)),
 Qd 6 50 (.ext 1 (tm 44)),
 Qd 7 11 (.mv (tm 49)),
 Qd 8 12 (.mv (tm 50))] [3, 4, 6, 11] []
abbrev f5r4 : Pc := .reg [
 Qd 0 51 (.mv (tm 11)),
 Qd 1 52 (.isnilP false (tm 51))] [3, 4, 6, 11, 52] []
abbrev f5r5 : Pc := .reg [
 Qd 0 10 (.mv kF)] [10] []
abbrev f5r6 : Pc := .reg [
 Qd 0 53 (.mv (tm 11)),
 Qd 1 54 (.call 14 [(tm 53)]),
 Qd 2 13 (.mv (tm 54))] [3, 4, 6, 11, 13] []
abbrev f5r7 : Pc := .reg [
 Qd 0 56 (.load true 2 (tm 6)),
 Qd 1 57 (.mv (tm 3)),
 Qd 2 58 (.mv (tm 4)),
 Qd 3 59 (.call 23 [(tm 56), (tm 57), (tm 58)]),
 Qd 4 55 (.mv (tm 59)),
 Qd 5 60 (.ext 0 (tm 55)),
 Qd 6 61 (.ext 1 (tm 55)),
 Qd 7 14 (.alloc 27 [(.t (.i .i64 0)), .nl]),
 Qn 8 (.store 2 (tm 14) (tm 60)),
 Qd 9 15 (.mv (tm 61))] [3, 4, 11, 13, 14, 15] []
abbrev f5r8 : Pc := .reg [
 Qd 0 63 (.load true 2 (tm 14)),
 Qd 1 64 (.mv (tm 3)),
 Qd 2 65 (.mv (tm 4)),
 Qd 3 66 (.call 24 [(tm 63), (tm 64), (tm 65)]),
 Qd 4 62 (.mv (tm 66)),
 Qd 5 67 (.ext 0 (tm 62)),
 Qd 6 68 (.ext 1 (tm 62)),
 Qd 7 16 (.alloc 27 [(.t (.i .i64 0)), .nl]),
 Qn 8 (.store 2 (tm 16) (tm 67)),
 Qd 9 17 (.mv (tm 68))] [3, 4, 11, 13, 15, 17] []
abbrev f5r9 : Pc := .reg [
 Qd 0 69 (.mv (tm 11)),
 Qd 1 70 (.mv (tm 3)),
 Qd 2 71 (.mv (tm 4)),
 Qd 3 72 (.call 25 [(tm 69), (tm 70), (tm 71)]),
 Qd 4 73 (.mv (tm 11)),
 Qd 5 74 (.mv (tm 3)),
 Qd 6 75 (.mv (tm 4)),
 Qd 7 76 (.call 26 [(tm 73), (tm 74), (tm 75)]),
 Qd 8 18 (.mv (tm 72)),
 Qd 9 19 (.mv (tm 76))] [11, 13, 15, 17, 18, 19] []
abbrev f5r10 : Pc := .reg [
 Qd 0 77 (.mv (tm 11)),
 Qd 1 78 (.call 14 [(tm 77)]),
 Qd 2 20 (.mv (tm 78))] [13, 15, 17, 18, 19, 20] []
abbrev f5r11 : Pc := .reg [
 Qd 0 79 (.mv (tm 18)),
 Qd 1 80 (.mv (tm 15)),
 Qd 2 81 (.bin .neq (tm 79) (tm 80)),
 Qd 3 82 (.mv (tm 81)),
 Gf 4 83 82 (.mv (tm 19)),
 Gf 5 84 82 (.mv (tm 17)),
 Gf 6 85 82 (.bin .neq (tm 83) (tm 84)),
 Qd 7 86 (.pick (tm 82) kT (tm 85)),
 Qd 8 87 (.mv (tm 86)),
 Gf 9 88 87 (.mv (tm 13)),
 Gf 10 89 87 (.lenL (tm 88)),
 Gf 11 90 87 (.mv (tm 20)),
 Gf 12 91 87 (.lenL (tm 90)),
 Gf 13 92 87 (.bin .neq (tm 89) (tm 91)),
 Qd 14 93 (.pick (tm 87) kT (tm 92))] [13, 20, 93] []
abbrev f5r12 : Pc := .reg [
 Qd 0 10 (.mv kF)] [10] []
abbrev f5r13 : Pc := .reg [
 Qd 0 94 (.mv (tm 13)),
 Qd 1 95 (.lenL (tm 94)),
 Qd 2 96 (.mv (kz 0))] [13, 20, 95, 96] []
abbrev f5r14 : Pc := .reg [
 Qd 0 97 (.bin .lss (tm 96) (tm 95))] [13, 20, 95, 96, 97] []
abbrev f5r15 : Pc := .reg [
 Qd 0 98 (.mv (tm 96)),
 Qd 1 21 (.mv (tm 98))] [13, 20, 21, 95, 96] []
abbrev f5r16 : Pc := .reg [
 Qd 0 99 (.mv (tm 13)),
 Qd 1 100 (.mv (tm 21)),
 Qd 2 101 (.ixS 1 (tm 99) (tm 100)),
 Qd 3 102 (.load false 1 (tm 101)),
 Qd 4 103 (.mv (tm 20)),
 Qd 5 104 (.mv (tm 21)),
 Qd 6 105 (.ixS 1 (tm 103) (tm 104)),
 Qd 7 106 (.load false 1 (tm 105)),
 Qd 8 107 (.bin .neq (tm 102) (tm 106))] [13, 20, 95, 96, 107] []
abbrev f5r17 : Pc := .reg [
 Qd 0 10 (.mv kF)] [10] []
abbrev f5r18 : Pc := .reg [
 Qd 0 108 (.bin .add (tm 96) (kz 1)),
 Qd 1 96 (.mv (tm 108))] [13, 20, 95, 96] []
def f5l0 : Pc := (.seq f5r14 (.seq (.cond (tm 97) .skip (.exit 0)) (.seq (.block 1 (.seq f5r15 (.seq f5r16 (.cond (tm 107) (.seq f5r17 .ret) .skip)))) f5r18)))
theorem f5l0e (C : Cfg) (s : St) : evL C f5l0 s = evL C (.seq f5r14 (.seq (.cond (tm 97) .skip (.exit 0)) (.seq (.block 1 (.seq f5r15 (.seq f5r16 (.cond (tm 107) (.seq f5r17 .ret) .skip)))) f5r18))) s := rfl
abbrev f5r19 : Pc := .reg [
 Qd 0 109 (.call 11 []),
 Qd 1 10 (.mv (tm 109))] [10] []
abbrev f5b : Pc := (.seq f5r0 (.seq (.seq f5r1 (.cond (tm 42) (.seq f5r2 .ret) .skip)) (.seq f5r3 (.seq (.seq f5r4 (.cond (tm 52) (.seq f5r5 .ret) .skip)) (.seq f5r6 (.seq f5r7 (.seq f5r8 (.seq f5r9 (.seq f5r10 (.seq (.seq f5r11 (.cond (tm 93) (.seq f5r12 .ret) .skip)) (.seq (.seq f5r13 (.block 0 (.loop f5l0))) (.seq f5r19 .ret))))))))))))
abbrev f5 : Pfn := ⟨5, 110, [.tmp 10], f5b⟩
def f5K : Array (List Nat) := #[[2, 3, 4, 5, 6], [2, 3, 4, 5, 6, 42], [10], [3, 4, 6, 11], [3, 4, 6, 11, 52], [10], [3, 4, 6, 11, 13], [3, 4, 11, 13, 14, 15], [3, 4, 11, 13, 15, 17], [11, 13, 15, 17, 18, 19], [13, 15, 17, 18, 19, 20], [13, 20, 93], [10], [13, 20, 95, 96], [13, 20, 95, 96, 97], [13, 20, 21, 95, 96], [13, 20, 95, 96, 107], [10], [13, 20, 95, 96], [10]]
def f5H : Array (List Nat) := #[[], [], [], [], [], [], [], [], [], [], [], [], [], [], [], [], [], [], [], []]
def f5A : Ann := ⟨fun r => f5K.getD r [], fun r => f5H.getD r [], fun r i => ([] : List (Nat × Nat)).contains (r, i)⟩
theorem f5C : compF Go.Proofs.Tryz.prog f5A 5 = some f5 := by kernel_rfl

abbrev f6r0 : Pc := .reg [
 Qd 0 4 (.box 24 2 (tm 0)),
 Qd 1 5 (.box 27 2 (tm 1)),
 Qd 2 8 (.mv kF)] [2, 3, 4, 5] []
abbrev f6r1 : Pc := .reg [
 Qd 0 15 (.load true 2 (tm 4)),
 Qd 1 16 (.call 9 [(tm 15)]),
 Qd 2 17 (.un .not (tm 16)),
 Qd 3 18 (.mv (tm 17)),
 Gf 4 19 18 (.fad 1 (tm 5)),
 Gf 5 20 18 (.load false 1 (tm 19)),
 Gf 6 21 18 (.call 10 [(tm 20)]),
 Gf 7 22 18 (.un .not (tm 21)),
 Qd 8 23 (.pick (tm 18) kT (tm 22)),
 Qd 9 24 (.mv (tm 23)),
 Gf 10 25 24 (.mv (tm 2)),
 Gf 11 26 24 (.call 10 [(tm 25)]),
 Gf 12 27 24 (.un .not (tm 26)),
 Qd 13 28 (.pick (tm 24) kT (tm 27)),
 Qd 14 29 (.mv (tm 28)),
 Gf 15 30 29 (.load true 2 (tm 4)),
 Gf 16 31 29 (.load true 2 (tm 5)),
 Gf 17 32 29 (.mv (tm 2)),
 Gf 18 33 29 (.call 13 [(tm 30), (tm 31), (tm 32)]),
 Gf 19 34 29 (.un .not (tm 33)),
 Qd 20 35 (.pick (tm 29) kT (tm 34))] [2, 3, 4, 5, 35] []
abbrev f6r2 : Pc := .reg [
 Qd 0 36 (.call 11 []),
 Qd 1 8 (.mv (tm 36))] [8] []
abbrev f6r3 : Pc := .reg [
 Qd 0 38 (.load true 2 (tm 4)),
 Qd 1 39 (.load true 2 (tm 5)),
 Qd 2 40 (.mv (tm 2)),
 Qd 3 41 (.call 12 [(tm 38), (tm 39), (tm 40)]),
 Qd 4 37 (.mv (tm 41)),
 Qd 5 42 (.ext 0 (tm 37)),
 Qd 6 43 (.ext 1 (tm 37)),
 Qd 7 9 (.mv (tm 42)),
 Qd 8 10 (.mv (tm 43))] [2, 3, 4, 9, 10] []
abbrev f6r4 : Pc := .reg [
 Qd 0 44 (.mv (tm 9)),
 Qd 1 45 (.isnilP false (tm 44)),
 Qd 2 46 (.mv (tm 45)),
 Gf 3 47 46 (.mv (tm 10)),
 Gf 4 48 46 (.bin .neq (tm 47) (kz 0)),
 Qd 5 49 (.pick (tm 46) kT (tm 48))] [2, 3, 4, 9, 49] []
abbrev f6r5 : Pc := .reg [
 Qd 0 8 (.mv kF)] [8] []
abbrev f6r6 : Pc := .reg [
 Qd 0 50 (.load true 2 (tm 4)),
 Qd 1 51 (.mv (tm 2)),
 Qd 2 52 (.call 20 [(tm 50), (tm 51)]),
 Qd 3 11 (.mv (tm 52))] [3, 9, 11] []
abbrev f6r7 : Pc := .reg [
 Qd 0 12 (.mv (kz 0))] [3, 9, 11, 12] []
abbrev f6r8 : Pc := .reg [
 Qd 0 53 (.mv (tm 12)),
 Qd 1 54 (.mv (tm 3)),
 Qd 2 55 (.lenL (tm 54)),
 Qd 3 56 (.bin .lss (tm 53) (tm 55)),
 Qd 4 57 (.mv (tm 56)),
 Gt 5 58 57 (.mv (tm 12)),
 Gt 6 59 57 (.bin .lss (tm 58) (kz 200)),
 Qd 7 60 (.pick (tm 57) (tm 59) kF)] [3, 9, 11, 12, 60] []
abbrev f6r10 : Pc := .reg [
 Qd 0 63 (.mv (tm 9)),
 Qd 1 64 (.mv (tm 3)),
 Qd 2 65 (.mv (tm 12)),
 Qd 3 66 (.ixS 3 (tm 64) (tm 65)),
 Qd 4 67 (.load true 3 (tm 66)),
 Qd 5 68 (.call 27 [(tm 63), (tm 67)])] [3, 9, 11, 12] []
abbrev f6r11 : Pc := .reg [
 Qd 0 70 (.mv (tm 9)),
 Qd 1 71 (.call 17 [(tm 70)]),
 Qd 2 69 (.mv (tm 71)),
 Qd 3 72 (.ext 0 (tm 69)),
 Qd 4 73 (.ext 1 (tm 69)),
 Qd 5 13 (.mv (tm 72)),
 Qd 6 14 (.mv (tm 73))] [3, 9, 11, 12, 13, 14] []
abbrev f6r12 : Pc := .reg [
 Qd 0 74 (.mv (tm 14)),
 Qd 1 75 (.mv (tm 74)),
 Gt 2 76 75 (.mv (tm 13)),
 Gt 3 77 75 (.mv (tm 11)),
 Gt 4 78 75 (.call 22 [(tm 76), (tm 77)]),
 Gt 5 79 75 (.un .not (tm 78)),
 Qd 6 80 (.pick (tm 75) (tm 79) kF),
 Qd 7 81 (.mv (tm 80)),
 Gf 8 82 81 (.mv (tm 14)),
 Gf 9 83 81 (.un .not (tm 82)),
 Gf 10 84 81 (.mv (tm 83)),
 Gt 11 85 84 (.mv (tm 13)),
 Gt 12 86 84 (.lenL (tm 85)),
 Gt 13 87 84 (.bin .neq (tm 86) (kz 0)),
 Gf 14 88 81 (.pick (tm 84) (tm 87) kF),
 Qd 15 89 (.pick (tm 81) kT (tm 88)),
 Qd 16 90 (.mv (tm 89)),
 Gf 17 91 90 (.mv (tm 9)),
 Gf 18 92 90 (.call 14 [(tm 91)]),
 Gf 19 93 90 (.lenL (tm 92)),
 Gf 20 94 90 (.bin .gtr (tm 93) (kz 200)),
 Qd 21 95 (.pick (tm 90) kT (tm 94))] [3, 9, 11, 12, 95] []
abbrev f6r13 : Pc := .reg [
 Qd 0 8 (.mv kF)] [8] []
abbrev f6r9 : Pc := .reg [
 Qd 0 61 (.mv (tm 12)),
 Qd 1 62 (.bin .add (tm 61) (kz 1)),
 Qd 2 12 (.mv (tm 62))] [3, 9, 11, 12] []
def f6l0 : Pc := (.seq (.seq f6r8 (.cond (tm 60) .skip (.exit 0))) (.seq (.block 1 (.seq f6r10 (.seq f6r11 (.seq f6r12 (.cond (tm 95) (.seq f6r13 .ret) .skip))))) f6r9))
theorem f6l0e (C : Cfg) (s : St) : evL C f6l0 s = evL C (.seq (.seq f6r8 (.cond (tm 60) .skip (.exit 0))) (.seq (.block 1 (.seq f6r10 (.seq f6r11 (.seq f6r12 (.cond (tm 95) (.seq f6r13 .ret) .skip))))) f6r9)) s := rfl
abbrev f6r14 : Pc := .reg [
 Qd 0 96 (.call 11 []),
 Qd 1 8 (.mv (tm 96))] [8] []
abbrev f6b : Pc := (.seq f6r0 (.seq (.seq f6r1 (.cond (tm 35) (.seq f6r2 .ret) .skip)) (.seq f6r3 (.seq (.seq f6r4 (.cond (tm 49) (.seq f6r5 .ret) .skip)) (.seq f6r6 (.seq (.seq f6r7 (.block 0 (.loop f6l0))) (.seq f6r14 .ret)))))))
abbrev f6 : Pfn := ⟨4, 97, [.tmp 8], f6b⟩
def f6K : Array (List Nat) := #[[2, 3, 4, 5], [2, 3, 4, 5, 35], [8], [2, 3, 4, 9, 10], [2, 3, 4, 9, 49], [8], [3, 9, 11], [3, 9, 11, 12], [3, 9, 11, 12, 60], [3, 9, 11, 12], [3, 9, 11, 12], [3, 9, 11, 12, 13, 14], [3, 9, 11, 12, 95], [8], [8]]
def f6H : Array (List Nat) := #[[], [], [], [], [], [], [], [], [], [], [], [], [], [], []]
def f6A : Ann := ⟨fun r => f6K.getD r [], fun r => f6H.getD r [], fun r i => ([] : List (Nat × Nat)).contains (r, i)⟩
theorem f6C : compF Go.Proofs.Tryz.prog f6A 6 = some f6 := by kernel_rfl

abbrev f7r0 : Pc := .reg [
 Qd 0 4 (.box 24 2 (tm 0)),
 Qd 1 5 (.box 27 2 (tm 1)),
 Qd 2 8 (.mv kF)] [2, 3, 4, 5] []
abbrev f7r1 : Pc := .reg [
 Qd 0 14 (.load true 2 (tm 4)),
 Qd 1 15 (.call 9 [(tm 14)]),
 Qd 2 16 (.un .not (tm 15)),
 Qd 3 17 (.mv (tm 16)),
 Gf 4 18 17 (.fad 1 (tm 5)),
 Gf 5 19 17 (.load false 1 (tm 18)),
 Gf 6 20 17 (.call 10 [(tm 19)]),
 Gf 7 21 17 (.un .not (tm 20)),
 Qd 8 22 (.pick (tm 17) kT (tm 21)),
 Qd 9 23 (.mv (tm 22)),
 Gf 10 24 23 (.mv (tm 2)),
 Gf 11 25 23 (.call 10 [(tm 24)]),
 Gf 12 26 23 (.un .not (tm 25)),
 Qd 13 27 (.pick (tm 23) kT (tm 26)),
 Qd 14 28 (.mv (tm 27)),
 Gf 15 29 28 (.load true 2 (tm 4)),
 Gf 16 30 28 (.load true 2 (tm 5)),
 Gf 17 31 28 (.mv (tm 2)),
 Gf 18 32 28 (.call 13 [(tm 29), (tm 30), (tm 31)]),
 Gf 19 33 28 (.un .not (tm 32)),
 Qd 20 34 (.pick (tm 28) kT (tm 33))] [2, 3, 4, 5, 34] []
abbrev f7r2 : Pc := .reg [
 Qd 0 35 (.call 11 []),
 Qd 1 8 (.mv (tm 35))] [8] []
abbrev f7r3 : Pc := .reg [
 Qd 0 37 (.load true 2 (tm 4)),
 Qd 1 38 (.load true 2 (tm 5)),
 Qd 2 39 (.mv (tm 2)),
 Qd 3 40 (.call 12 [(tm 37), (tm 38), (tm 39)]),
 Qd 4 36 (.mv (tm 40)),
 Qd 5 41 (.ext 0 (tm 36)),
 Qd 6 42 (.ext 1 (tm 36)),
 Qd 7 9 (.mv (tm 41)),
 Qd 8 10 (.mv (tm 42))] [2, 3, 4, 9, 10] []
abbrev f7r4 : Pc := .reg [
 Qd 0 43 (.mv (tm 9)),
 Qd 1 44 (.isnilP false (tm 43)),
 Qd 2 45 (.mv (tm 44)),
 Gf 3 46 45 (.mv (tm 10)),
 Gf 4 47 45 (.bin .neq (tm 46) (kz 0)),
 Qd 5 48 (.pick (tm 45) kT (tm 47))] [2, 3, 4, 9, 48] []
abbrev f7r5 : Pc := .reg [
 Qd 0 8 (.mv kF)] [8] []
abbrev f7r6 : Pc := .reg [
 Qd 0 11 (.mv (kz 0))] [2, 3, 4, 9, 11] []
abbrev f7r7 : Pc := .reg [
 Qd 0 49 (.mv (tm 11)),
 Qd 1 50 (.mv (tm 3)),
 Qd 2 51 (.lenL (tm 50)),
 Qd 3 52 (.bin .lss (tm 49) (tm 51)),
 Qd 4 53 (.mv (tm 52)),
 Gt 5 54 53 (.mv (tm 11)),
 Gt 6 55 53 (.bin .lss (tm 54) (kz 200)),
 Qd 7 56 (.pick (tm 53) (tm 55) kF)] [2, 3, 4, 9, 11, 56] []
abbrev f7r9 : Pc := .reg [
 Qd 0 59 (.mv (tm 9)),
 Qd 1 60 (.mv (tm 3)),
 Qd 2 61 (.mv (tm 11)),
 Qd 3 62 (.ixS 3 (tm 60) (tm 61)),
 Qd 4 63 (.load true 3 (tm 62)),
 Qd 5 64 (.call 27 [(tm 59), (tm 63)])] [2, 3, 4, 9, 11] []
abbrev f7r8 : Pc := .reg [
 Qd 0 57 (.mv (tm 11)),
 Qd 1 58 (.bin .add (tm 57) (kz 1)),
 Qd 2 11 (.mv (tm 58))] [2, 3, 4, 9, 11] []
def f7l0 : Pc := (.seq (.seq f7r7 (.cond (tm 56) .skip (.exit 0))) (.seq (.block 1 f7r9) f7r8))
theorem f7l0e (C : Cfg) (s : St) : evL C f7l0 s = evL C (.seq (.seq f7r7 (.cond (tm 56) .skip (.exit 0))) (.seq (.block 1 f7r9) f7r8)) s := rfl
abbrev f7r10 : Pc := .reg [
 Qd 0 65 (.fad 1 (tm 4)),
 Qd 1 66 (.load false 1 (tm 65)),
 Qd 2 67 (.lenL (tm 66)),
 Qd 3 68 (.bin .add (tm 67) (kz 1)),
 Qd 4 69 (.mv (kz 0))] [2, 4, 9, 68, 69] []
abbrev f7r11 : Pc := .reg [
 Qd 0 70 (.bin .lss (tm 69) (tm 68))] [2, 4, 9, 68, 69, 70] []
abbrev f7r12 : Pc := .reg [
 Qd 0 71 (.mv (kz 0))] [2, 4, 9, 68, 69, 71] []
abbrev f7r13 : Pc := .reg [
 Qd 0 72 (.bin .lss (tm 71) (kz 2000))] [2, 4, 9, 68, 69, 71, 72] []
abbrev f7r14 : Pc := .reg [
 Qd 0 73 (.mv (tm 9)),
 Qd 1 74 (.call 21 [(tm 73), (kz 0)]),
 Qd 2 75 (.bin .neq (tm 74) (kz 0))] [2, 4, 9, 68, 69, 71, 75] []
abbrev f7r15 : Pc := .reg [
 Qd 0 76 (.bin .add (tm 71) (kz 1)),
 Qd 1 71 (.mv (tm 76))] [2, 4, 9, 68, 69, 71] []
def f7l1 : Pc := (.seq f7r13 (.seq (.cond (tm 72) .skip (.exit 4)) (.seq (.block 5 (.seq f7r14 (.cond (tm 75) (.exit 4) .skip))) f7r15)))
theorem f7l1e (C : Cfg) (s : St) : evL C f7l1 s = evL C (.seq f7r13 (.seq (.cond (tm 72) .skip (.exit 4)) (.seq (.block 5 (.seq f7r14 (.cond (tm 75) (.exit 4) .skip))) f7r15))) s := rfl
abbrev f7r16 : Pc := .reg [
 Qd 0 77 (.mv (tm 9)),
 Qd 1 78 (.call 28 [(tm 77)])] [2, 4, 9, 68, 69] []
abbrev f7r17 : Pc := .reg [
 Qd 0 79 (.bin .add (tm 69) (kz 1)),
 Qd 1 69 (.mv (tm 79))] [2, 4, 9, 68, 69] []
def f7l2 : Pc := (.seq f7r11 (.seq (.cond (tm 70) .skip (.exit 2)) (.seq (.block 3 (.seq (.seq f7r12 (.block 4 (.loop f7l1))) f7r16)) f7r17)))
theorem f7l2e (C : Cfg) (s : St) : evL C f7l2 s = evL C (.seq f7r11 (.seq (.cond (tm 70) .skip (.exit 2)) (.seq (.block 3 (.seq (.seq f7r12 (.block 4 (.loop f7l1))) f7r16)) f7r17))) s := rfl
abbrev f7r18 : Pc := .reg [
 Qd 0 80 (.mv (kz 0))] [2, 4, 9, 80] []
abbrev f7r19 : Pc := .reg [
 Qd 0 81 (.bin .lss (tm 80) (kz 2000))] [2, 4, 9, 80, 81] []
abbrev f7r20 : Pc := .reg [
 Qd 0 82 (.mv (tm 9)),
 Qd 1 83 (.call 21 [(tm 82), (kz 0)]),
 Qd 2 84 (.bin .neq (tm 83) (kz 0))] [2, 4, 9, 80, 84] []
abbrev f7r21 : Pc := .reg [
 Qd 0 85 (.bin .add (tm 80) (kz 1)),
 Qd 1 80 (.mv (tm 85))] [2, 4, 9, 80] []
def f7l3 : Pc := (.seq f7r19 (.seq (.cond (tm 81) .skip (.exit 6)) (.seq (.block 7 (.seq f7r20 (.cond (tm 84) (.exit 6) .skip))) f7r21)))
theorem f7l3e (C : Cfg) (s : St) : evL C f7l3 s = evL C (.seq f7r19 (.seq (.cond (tm 81) .skip (.exit 6)) (.seq (.block 7 (.seq f7r20 (.cond (tm 84) (.exit 6) .skip))) f7r21))) s := rfl
abbrev f7r22 : Pc := .reg [
 Qd 0 87 (.mv (tm 9)),
 Qd 1 88 (.call 17 [(tm 87)]),
 Qd 2 86 (.mv (tm 88)),
 Qd 3 89 (.ext 0 (tm 86)),
 Qd 4 90 (.ext 1 (tm 86)),
 Qd 5 12 (.mv (tm 89)),
 Qd 6 13 (.mv (tm 90))] [2, 4, 9, 12, 13] []
abbrev f7r23 : Pc := .reg [
 Qd 0 91 (.mv (tm 13)),
 Qd 1 92 (.mv (tm 91)),
 Gt 2 93 92 (.mv (tm 12)),
 Gt 3 94 92 (.load true 2 (tm 4)),
 Gt 4 95 92 (.mv (tm 2)),
 Gt 5 96 92 (.callq 20 [(tm 94), (tm 95)]),
 Gt 6 97 92 (.callq 22 [(tm 93), (tm 96)]),
 Qd 7 98 (.pick (tm 92) (tm 97) kF),
 Qd 8 99 (.mv (tm 98)),
 Gt 9 100 99 (.mv (tm 9)),
 Gt 10 101 99 (.callK 18 [(tm 100)]),
 Gt 11 102 99 (.mv (tm 2)),
 Gt 12 103 99 (.lenL (tm 102)),
 Gt 13 104 99 (.bin .mul (kz 8) (tm 103)),
 Gt 14 105 99 (.fad 1 (tm 4)),
 Gt 15 106 99 (.load false 1 (tm 105)),
 Gt 16 107 99 (.lenL (tm 106)),
 Gt 17 108 99 (.bin .mul (tm 104) (tm 107)),
 Gt 18 109 99 (.bin .leq (tm 101) (tm 108)),
 Qd 19 110 (.pick (tm 99) (tm 109) kF),
 Qd 20 111 (.mv (tm 110)),
 Gt 21 112 111 (.callq 11 []),
 Qd 22 113 (.pick (tm 111) (tm 112) kF),
 Qd 23 8 (.mv (tm 113))] [8] []
abbrev f7b : Pc := (.seq f7r0 (.seq (.seq f7r1 (.cond (tm 34) (.seq f7r2 .ret) .skip)) (.seq f7r3 (.seq (.seq f7r4 (.cond (tm 48) (.seq f7r5 .ret) .skip)) (.seq (.seq f7r6 (.block 0 (.loop f7l0))) (.seq (.seq f7r10 (.block 2 (.loop f7l2))) (.seq (.seq f7r18 (.block 6 (.loop f7l3))) (.seq f7r22 (.seq f7r23 .ret)))))))))
abbrev f7 : Pfn := ⟨4, 114, [.tmp 8], f7b⟩
def f7K : Array (List Nat) := #[[2, 3, 4, 5], [2, 3, 4, 5, 34], [8], [2, 3, 4, 9, 10], [2, 3, 4, 9, 48], [8], [2, 3, 4, 9, 11], [2, 3, 4, 9, 11, 56], [2, 3, 4, 9, 11], [2, 3, 4, 9, 11], [2, 4, 9, 68, 69], [2, 4, 9, 68, 69, 70], [2, 4, 9, 68, 69, 71], [2, 4, 9, 68, 69, 71, 72], [2, 4, 9, 68, 69, 71, 75], [2, 4, 9, 68, 69, 71], [2, 4, 9, 68, 69], [2, 4, 9, 68, 69], [2, 4, 9, 80], [2, 4, 9, 80, 81], [2, 4, 9, 80, 84], [2, 4, 9, 80], [2, 4, 9, 12, 13], [8]]
def f7H : Array (List Nat) := #[[], [], [], [], [], [], [], [], [], [], [], [], [], [], [], [], [], [], [], [], [], [], [], []]
def f7A : Ann := ⟨fun r => f7K.getD r [], fun r => f7H.getD r [], fun r i => ([(23, 10), (23, 1010)] : List (Nat × Nat)).contains (r, i)⟩
theorem f7C : compF Go.Proofs.Tryz.prog f7A 7 = some f7 := by kernel_rfl

abbrev f8r0 : Pc := .reg [
 Qd 0 4 (.box 24 2 (tm 0)),
 Qd 1 5 (.box 27 2 (tm 1)),
 Qd 2 8 (.mv kF)] [2, 3, 4, 5] []
abbrev f8r1 : Pc := .reg [
 Qd 0 21 (.load true 2 (tm 4)),
 Qd 1 22 (.call 9 [(tm 21)]),
 Qd 2 23 (.un .not (tm 22)),
 Qd 3 24 (.mv (tm 23)),
 Gf 4 25 24 (.fad 1 (tm 5)),
 Gf 5 26 24 (.load false 1 (tm 25)),
 Gf 6 27 24 (.call 10 [(tm 26)]),
 Gf 7 28 24 (.un .not (tm 27)),
 Qd 8 29 (.pick (tm 24) kT (tm 28)),
 Qd 9 30 (.mv (tm 29)),
 Gf 10 31 30 (.mv (tm 2)),
 Gf 11 32 30 (.call 10 [(tm 31)]),
 Gf 12 33 30 (.un .not (tm 32)),
 Qd 13 34 (.pick (tm 30) kT (tm 33)),
 Qd 14 35 (.mv (tm 34)),
 Gf 15 36 35 (.load true 2 (tm 4)),
 Gf 16 37 35 (.load true 2 (tm 5)),
 Gf 17 38 35 (.mv (tm 2)),
 Gf 18 39 35 (.call 13 [(tm 36), (tm 37), (tm 38)]),
 Gf 19 40 35 (.un .not (tm 39)),
 Qd 20 41 (.pick (tm 35) kT (tm 40))] [2, 3, 4, 5, 41] []
abbrev f8r2 : Pc := .reg [
 Qd 0 42 (.call 11 []),
 Qd 1 8 (.mv (tm 42))] [8] []
abbrev f8r3 : Pc := .reg [
 Qd 0 44 (.load true 2 (tm 4)),
 Qd 1 45 (.load true 2 (tm 5)),
 Qd 2 46 (.mv (tm 2)),
 Qd 3 47 (.call 12 [(tm 44), (tm 45), (tm 46)]),
 Qd 4 43 (.mv (tm 47)),
 Qd 5 48 (.ext 0 (tm 43)),
 Qd 6 49 (.ext 1 (tm 43)),
 Qd 7 9 (.mv (tm 48)),
 Qd 8 10 (.mv (tm 49))] [2, 3, 4, 5, 9] []
abbrev f8r4 : Pc := .reg [
 Qd 0 51 (.load true 2 (tm 4)),
 Qd 1 52 (.load true 2 (tm 5)),
 Qd 2 53 (.mv (tm 2)),
 Qd 3 54 (.call 12 [(tm 51), (tm 52), (tm 53)]),
 Qd 4 50 (.mv (tm 54)),
 Qd 5 55 (.ext 0 (tm 50)),
 Qd 6 56 (.ext 1 (tm 50)),
 Qd 7 11 (.mv (tm 55)),
 Qd 8 12 (.mv (tm 56))] [3, 9, 11] []
abbrev f8r5 : Pc := .reg [
 Qd 0 57 (.mv (tm 9)),
 Qd 1 58 (.isnilP false (tm 57)),
 Qd 2 59 (.mv (tm 58)),
 Gf 3 60 59 (.mv (tm 11)),
 Gf 4 61 59 (.isnilP false (tm 60)),
 Qd 5 62 (.pick (tm 59) kT (tm 61))] [3, 9, 11, 62] []
abbrev f8r6 : Pc := .reg [
 Qd 0 8 (.mv kF)] [8] []
abbrev f8r7 : Pc := .reg [
 Qd 0 13 (.mv (kz 0))] [3, 9, 11, 13] []
abbrev f8r8 : Pc := .reg [
 Qd 0 63 (.mv (tm 13)),
 Qd 1 64 (.mv (tm 3)),
 Qd 2 65 (.lenL (tm 64)),
 Qd 3 66 (.bin .lss (tm 63) (tm 65)),
 Qd 4 67 (.mv (tm 66)),
 Gt 5 68 67 (.mv (tm 13)),
 Gt 6 69 67 (.bin .lss (tm 68) (kz 100)),
 Qd 7 70 (.pick (tm 67) (tm 69) kF)] [3, 9, 11, 13, 70] []
abbrev f8r10 : Pc := .reg [
 Qd 0 73 (.mv (tm 9)),
 Qd 1 74 (.mv (tm 3)),
 Qd 2 75 (.mv (tm 13)),
 Qd 3 76 (.ixS 3 (tm 74) (tm 75)),
 Qd 4 77 (.load true 3 (tm 76)),
 Qd 5 78 (.call 27 [(tm 73), (tm 77)])] [3, 9, 11, 13] []
abbrev f8r11 : Pc := .reg [
 Qd 0 79 (.mv (tm 11)),
 Qd 1 80 (.mv (tm 3)),
 Qd 2 81 (.mv (tm 13)),
 Qd 3 82 (.ixS 3 (tm 80) (tm 81)),
 Qd 4 83 (.load true 3 (tm 82)),
 Qd 5 84 (.call 27 [(tm 79), (tm 83)])] [3, 9, 11, 13] []
abbrev f8r12 : Pc := .reg [
 Qd 0 86 (.mv (tm 9)),
 Qd 1 87 (.call 17 [(tm 86)]),
 Qd 2 85 (.mv (tm 87)),
 Qd 3 88 (.ext 0 (tm 85)),
 Qd 4 89 (.ext 1 (tm 85)),
 Qd 5 14 (.mv (tm 88)),
 Qd 6 15 (.mv (tm 89))] [3, 9, 11, 13, 14, 15] []
abbrev f8r13 : Pc := .reg [
 Qd 0 91 (.mv (tm 11)),
 Qd 1 92 (.call 17 [(tm 91)]),
 Qd 2 90 (.mv (tm 92)),
 Qd 3 93 (.ext 0 (tm 90)),
 Qd 4 94 (.ext 1 (tm 90)),
 Qd 5 16 (.mv (tm 93)),
 Qd 6 17 (.mv (tm 94))] [3, 9, 11, 13, 14, 15, 16, 17] []
abbrev f8r14 : Pc := .reg [
 Qd 0 95 (.mv (tm 9)),
 Qd 1 96 (.call 14 [(tm 95)]),
 Qd 2 97 (.mv (tm 11)),
 Qd 3 98 (.call 14 [(tm 97)]),
 Qd 4 18 (.mv (tm 96)),
 Qd 5 19 (.mv (tm 98))] [3, 9, 11, 13, 14, 15, 16, 17, 18, 19] []
abbrev f8r15 : Pc := .reg [
 Qd 0 99 (.mv (tm 15)),
 Qd 1 100 (.mv (tm 17)),
 Qd 2 101 (.beq true (tm 99) (tm 100)),
 Qd 3 102 (.mv (tm 101)),
 Gf 4 103 102 (.mv (tm 14)),
 Gf 5 104 102 (.mv (tm 16)),
 Gf 6 105 102 (.call 22 [(tm 103), (tm 104)]),
 Gf 7 106 102 (.un .not (tm 105)),
 Qd 8 107 (.pick (tm 102) kT (tm 106)),
 Qd 9 108 (.mv (tm 107)),
 Gf 10 109 108 (.mv (tm 9)),
 Gf 11 110 108 (.call 18 [(tm 109)]),
 Gf 12 111 108 (.mv (tm 11)),
 Gf 13 112 108 (.call 18 [(tm 111)]),
 Gf 14 113 108 (.bin .neq (tm 110) (tm 112)),
 Qd 15 114 (.pick (tm 108) kT (tm 113)),
 Qd 16 115 (.mv (tm 114)),
 Gf 17 116 115 (.mv (tm 18)),
 Gf 18 117 115 (.lenL (tm 116)),
 Gf 19 118 115 (.mv (tm 19)),
 Gf 20 119 115 (.lenL (tm 118)),
 Gf 21 120 115 (.bin .neq (tm 117) (tm 119)),
 Qd 22 121 (.pick (tm 115) kT (tm 120))] [3, 9, 11, 13, 18, 19, 121] []
abbrev f8r16 : Pc := .reg [
 Qd 0 8 (.mv kF)] [8] []
abbrev f8r17 : Pc := .reg [
 Qd 0 122 (.mv (tm 18)),
 Qd 1 123 (.lenL (tm 122)),
 Qd 2 124 (.mv (kz 0))] [3, 9, 11, 13, 18, 19, 123, 124] []
abbrev f8r18 : Pc := .reg [
 Qd 0 125 (.bin .lss (tm 124) (tm 123))] [3, 9, 11, 13, 18, 19, 123, 124, 125] []
abbrev f8r19 : Pc := .reg [
 Qd 0 126 (.mv (tm 124)),
 Qd 1 20 (.mv (tm 126))] [3, 9, 11, 13, 18, 19, 20, 123, 124] []
abbrev f8r20 : Pc := .reg [
 Qd 0 127 (.mv (tm 18)),
 Qd 1 128 (.mv (tm 20)),
 Qd 2 129 (.ixS 1 (tm 127) (tm 128)),
 Qd 3 130 (.load false 1 (tm 129)),
 Qd 4 131 (.mv (tm 19)),
 Qd 5 132 (.mv (tm 20)),
 Qd 6 133 (.ixS 1 (tm 131) (tm 132)),
 Qd 7 134 (.load false 1 (tm 133)),
 Qd 8 135 (.bin .neq (tm 130) (tm 134))] [3, 9, 11, 13, 18, 19, 123, 124, 135] []
abbrev f8r21 : Pc := .reg [
 Qd 0 8 (.mv kF)] [8] []
abbrev f8r22 : Pc := .reg [
 Qd 0 136 (.bin .add (tm 124) (kz 1)),
 Qd 1 124 (.mv (tm 136))] [3, 9, 11, 13, 18, 19, 123, 124] []
def f8l0 : Pc := (.seq f8r18 (.seq (.cond (tm 125) .skip (.exit 2)) (.seq (.block 3 (.seq f8r19 (.seq f8r20 (.cond (tm 135) (.seq f8r21 .ret) .skip)))) f8r22)))
theorem f8l0e (C : Cfg) (s : St) : evL C f8l0 s = evL C (.seq f8r18 (.seq (.cond (tm 125) .skip (.exit 2)) (.seq (.block 3 (.seq f8r19 (.seq f8r20 (.cond (tm 135) (.seq f8r21 .ret) .skip)))) f8r22))) s := rfl
abbrev f8r9 : Pc := .reg [
 Qd 0 71 (.mv (tm 13)),
 Qd 1 72 (.bin .add (tm 71) (kz 1)),
 Qd 2 13 (.mv (tm 72))] [3, 9, 11, 13] []
def f8l1 : Pc := (.seq (.seq f8r8 (.cond (tm 70) .skip (.exit 0))) (.seq (.block 1 (.seq f8r10 (.seq f8r11 (.seq f8r12 (.seq f8r13 (.seq f8r14 (.seq (.seq f8r15 (.cond (tm 121) (.seq f8r16 .ret) .skip)) (.seq f8r17 (.block 2 (.loop f8l0)))))))))) f8r9))
theorem f8l1e (C : Cfg) (s : St) : evL C f8l1 s = evL C (.seq (.seq f8r8 (.cond (tm 70) .skip (.exit 0))) (.seq (.block 1 (.seq f8r10 (.seq f8r11 (.seq f8r12 (.seq f8r13 (.seq f8r14 (.seq (.seq f8r15 (.cond (tm 121) (.seq f8r16 .ret) .skip)) (.seq f8r17 (.block 2 (.loop f8l0)))))))))) f8r9)) s := rfl
abbrev f8r23 : Pc := .reg [
 Qd 0 137 (.call 11 []),
 Qd 1 8 (.mv (tm 137))] [8] []
abbrev f8b : Pc := (.seq f8r0 (.seq (.seq f8r1 (.cond (tm 41) (.seq f8r2 .ret) .skip)) (.seq f8r3 (.seq f8r4 (.seq (.seq f8r5 (.cond (tm 62) (.seq f8r6 .ret) .skip)) (.seq (.seq f8r7 (.block 0 (.loop f8l1))) (.seq f8r23 .ret)))))))
abbrev f8 : Pfn := ⟨4, 138, [.tmp 8], f8b⟩
def f8K : Array (List Nat) := #[[2, 3, 4, 5], [2, 3, 4, 5, 41], [8], [2, 3, 4, 5, 9], [3, 9, 11], [3, 9, 11, 62], [8], [3, 9, 11, 13], [3, 9, 11, 13, 70], [3, 9, 11, 13], [3, 9, 11, 13], [3, 9, 11, 13], [3, 9, 11, 13, 14, 15], [3, 9, 11, 13, 14, 15, 16, 17], [3, 9, 11, 13, 14, 15, 16, 17, 18, 19], [3, 9, 11, 13, 18, 19, 121], [8], [3, 9, 11, 13, 18, 19, 123, 124], [3, 9, 11, 13, 18, 19, 123, 124, 125], [3, 9, 11, 13, 18, 19, 20, 123, 124], [3, 9, 11, 13, 18, 19, 123, 124, 135], [8], [3, 9, 11, 13, 18, 19, 123, 124], [8]]
def f8H : Array (List Nat) := #[[], [], [], [], [], [], [], [], [], [], [], [], [], [], [], [], [], [], [], [], [], [], [], []]
def f8A : Ann := ⟨fun r => f8K.getD r [], fun r => f8H.getD r [], fun r i => ([] : List (Nat × Nat)).contains (r, i)⟩
theorem f8C : compF Go.Proofs.Tryz.prog f8A 8 = some f8 := by kernel_rfl

abbrev f9r0 : Pc := .reg [
 Qd 0 1 (.box 24 2 (tm 0)),
 Qd 1 2 (.mv kF)] [1] []
abbrev f9r1 : Pc := .reg [
 Qd 0 7 (.fad 1 (tm 1)),
 Qd 1 8 (.load false 1 (tm 7)),
 Qd 2 9 (.lenL (tm 8)),
 Qd 3 10 (.bin .gtr (tm 9) (kz 5))] [1, 10] []
abbrev f9r2 : Pc := .reg [
 Qd 0 2 (.mv kF)] [2] [1]
abbrev f9r3 : Pc := .reg [
 Qd 0 11 (.fad 1 (tm 1)),
 Qd 1 12 (.load false 1 (tm 11)),
 Qd 2 13 (.lenL (tm 12)),
 Qd 3 14 (.mv (kz 0))] [12, 13, 14] [1]
abbrev f9r4 : Pc := .reg [
 Qd 0 15 (.bin .lss (tm 14) (tm 13))] [12, 13, 14, 15] []
abbrev f9r5 : Pc := .reg [
 Qd 0 16 (.ixS 3 (tm 12) (tm 14)),
 Qd 1 17 (.load true 3 (tm 16)),
 Qd 2 4 (.alloc 53 [.nl, .nl, (.t (.i .i64 0))]),
 Qn 3 (.store 3 (tm 4) (tm 17))] [4, 12, 13, 14] []
abbrev f9r6 : Pc := .reg [
 Qd 0 18 (.fad 1 (tm 4)),
 Qd 1 19 (.load false 1 (tm 18)),
 Qd 2 20 (.lenL (tm 19)),
 Qd 3 21 (.bin .gtr (tm 20) (kz 9)),
 Qd 4 22 (.mv (tm 21)),
 Gf 5 23 22 (.fad 0 (tm 4)),
 Gf 6 24 22 (.load false 1 (tm 23)),
 Gf 7 25 22 (.call 10 [(tm 24)]),
 Gf 8 26 22 (.un .not (tm 25)),
 Qd 9 27 (.pick (tm 22) kT (tm 26))] [4, 12, 13, 14, 27] []
abbrev f9r7 : Pc := .reg [
 Qd 0 2 (.mv kF)] [2] [4]
abbrev f9r8 : Pc := .reg [
 Qd 0 28 (.fad 1 (tm 4)),
 Qd 1 29 (.load false 1 (tm 28)),
 Qd 2 30 (.lenL (tm 29)),
 Qd 3 31 (.mv (kz 0))] [12, 13, 14, 29, 30, 31] [4]
abbrev f9r9 : Pc := .reg [
 Qd 0 32 (.bin .lss (tm 31) (tm 30))] [12, 13, 14, 29, 30, 31, 32] []
abbrev f9r10 : Pc := .reg [
 Qd 0 33 (.ixS 2 (tm 29) (tm 31)),
 Qd 1 34 (.load true 2 (tm 33)),
 Qd 2 6 (.alloc 67 [.nl, .nl]),
 Qn 3 (.store 2 (tm 6) (tm 34))] [6, 12, 13, 14, 29, 30, 31] []
abbrev f9r11 : Pc := .reg [
 Qd 0 35 (.fad 0 (tm 6)),
 Qd 1 36 (.load false 1 (tm 35)),
 Qd 2 37 (.call 10 [(tm 36)]),
 Qd 3 38 (.un .not (tm 37)),
 Qd 4 39 (.mv (tm 38)),
 Gf 5 40 39 (.fad 1 (tm 6)),
 Gf 6 41 39 (.load false 1 (tm 40)),
 Gf 7 42 39 (.call 10 [(tm 41)]),
 Gf 8 43 39 (.un .not (tm 42)),
 Qd 9 44 (.pick (tm 39) kT (tm 43))] [12, 13, 14, 29, 30, 31, 44] [6]
abbrev f9r12 : Pc := .reg [
 Qd 0 2 (.mv kF)] [2] []
abbrev f9r13 : Pc := .reg [
 Qd 0 45 (.bin .add (tm 31) (kz 1)),
 Qd 1 31 (.mv (tm 45))] [12, 13, 14, 29, 30, 31] []
def f9l0 : Pc := (.seq f9r9 (.seq (.cond (tm 32) .skip (.exit 2)) (.seq (.block 3 (.seq f9r10 (.seq f9r11 (.cond (tm 44) (.seq f9r12 .ret) .skip)))) f9r13)))
theorem f9l0e (C : Cfg) (s : St) : evL C f9l0 s = evL C (.seq f9r9 (.seq (.cond (tm 32) .skip (.exit 2)) (.seq (.block 3 (.seq f9r10 (.seq f9r11 (.cond (tm 44) (.seq f9r12 .ret) .skip)))) f9r13))) s := rfl
abbrev f9r14 : Pc := .reg [
 Qd 0 46 (.bin .add (tm 14) (kz 1)),
 Qd 1 14 (.mv (tm 46))] [12, 13, 14] []
def f9l1 : Pc := (.seq f9r4 (.seq (.cond (tm 15) .skip (.exit 0)) (.seq (.block 1 (.seq f9r5 (.seq (.seq f9r6 (.cond (tm 27) (.seq f9r7 .ret) .skip)) (.seq f9r8 (.block 2 (.loop f9l0)))))) f9r14)))
theorem f9l1e (C : Cfg) (s : St) : evL C f9l1 s = evL C (.seq f9r4 (.seq (.cond (tm 15) .skip (.exit 0)) (.seq (.block 1 (.seq f9r5 (.seq (.seq f9r6 (.cond (tm 27) (.seq f9r7 .ret) .skip)) (.seq f9r8 (.block 2 (.loop f9l0)))))) f9r14))) s := rfl
abbrev f9r15 : Pc := .reg [
 Qd 0 2 (.mv kT)] [2] []
abbrev f9b : Pc := (.seq f9r0 (.seq (.seq f9r1 (.cond (tm 10) (.seq f9r2 .ret) .skip)) (.seq (.seq f9r3 (.block 0 (.loop f9l1))) (.seq f9r15 .ret))))
abbrev f9 : Pfn := ⟨1, 47, [.tmp 2], f9b⟩
def f9K : Array (List Nat) := #[[1], [1, 10], [2], [12, 13, 14], [12, 13, 14, 15], [4, 12, 13, 14], [4, 12, 13, 14, 27], [2], [12, 13, 14, 29, 30, 31], [12, 13, 14, 29, 30, 31, 32], [6, 12, 13, 14, 29, 30, 31], [12, 13, 14, 29, 30, 31, 44], [2], [12, 13, 14, 29, 30, 31], [12, 13, 14], [2]]
def f9H : Array (List Nat) := #[[], [], [1], [1], [], [], [], [4], [4], [], [], [6], [], [], [], []]
def f9A : Ann := ⟨fun r => f9K.getD r [], fun r => f9H.getD r [], fun r i => ([] : List (Nat × Nat)).contains (r, i)⟩
theorem f9C : compF Go.Proofs.Tryz.prog f9A 9 = some f9 := by kernel_rfl

abbrev f10r0 : Pc := .reg [
 Qd 0 2 (.mv kF)] [0] []
abbrev f10r1 : Pc := .reg [
 Qd 0 3 (.mv (kz 0))] [0, 3] []
abbrev f10r2 : Pc := .reg [
 Qd 0 4 (.mv (tm 3)),
 Qd 1 5 (.mv (tm 0)),
 Qd 2 6 (.lenL (tm 5)),
 Qd 3 7 (.bin .lss (tm 4) (tm 6)),
 Qd 4 8 (.mv (tm 7)),
 Gt 5 9 8 (.mv (tm 3)),
 Gt 6 10 8 (.bin .lss (tm 9) (kz 30)),
 Qd 7 11 (.pick (tm 8) (tm 10) kF)] [0, 3, 11] []
abbrev f10r4 : Pc := .reg [
 Qd 0 14 (.mv (tm 0)),
 Qd 1 15 (.mv (tm 3)),
 Qd 2 16 (.ixS 1 (tm 14) (tm 15)),
 Qd 3 17 (.load false 1 (tm 16)),
 Qd 4 18 (.lenL (tm 17)),
 Qd 5 19 (.bin .gtr (tm 18) (kz 30))] [0, 3, 19] []
abbrev f10r5 : Pc := .reg [
 Qd 0 2 (.mv kF)] [2] []
abbrev f10r3 : Pc := .reg [
 Qd 0 12 (.mv (tm 3)),
 Qd 1 13 (.bin .add (tm 12) (kz 1)),
 Qd 2 3 (.mv (tm 13))] [0, 3] []
def f10l0 : Pc := (.seq (.seq f10r2 (.cond (tm 11) .skip (.exit 0))) (.seq (.block 1 (.seq f10r4 (.cond (tm 19) (.seq f10r5 .ret) .skip))) f10r3))
theorem f10l0e (C : Cfg) (s : St) : evL C f10l0 s = evL C (.seq (.seq f10r2 (.cond (tm 11) .skip (.exit 0))) (.seq (.block 1 (.seq f10r4 (.cond (tm 19) (.seq f10r5 .ret) .skip))) f10r3)) s := rfl
abbrev f10r6 : Pc := .reg [
 Qd 0 20 (.mv (tm 0)),
 Qd 1 21 (.lenL (tm 20)),
 Qd 2 22 (.bin .leq (tm 21) (kz 30)),
 Qd 3 2 (.mv (tm 22))] [2] []
abbrev f10b : Pc := (.seq f10r0 (.seq (.seq f10r1 (.block 0 (.loop f10l0))) (.seq f10r6 .ret)))
abbrev f10 : Pfn := ⟨1, 23, [.tmp 2], f10b⟩
def f10K : Array (List Nat) := #[[0], [0, 3], [0, 3, 11], [0, 3], [0, 3, 19], [2], [2]]
def f10H : Array (List Nat) := #[[], [], [], [], [], [], []]
def f10A : Ann := ⟨fun r => f10K.getD r [], fun r => f10H.getD r [], fun r i => ([] : List (Nat × Nat)).contains (r, i)⟩
theorem f10C : compF Go.Proofs.Tryz.prog f10A 10 = some f10 := by kernel_rfl

abbrev f11r0 : Pc := .reg [
 Qd 0 0 (.mv kF)] [] []
abbrev f11r1 : Pc := .reg [
 Qd 0 7 (.bslT 1 [(kz 65536)]),
 Qd 1 8 (.bslT 1 [(tm 7)]),
 Qd 2 1 (.mv (tm 8))] [1] []
abbrev f11r2 : Pc := .reg [
 Qd 0 9 (.mv (tm 1)),
 Qd 1 10 (.mv (tm 1)),
 Qd 2 11 (.mv (tm 1)),
 Qd 3 12 (.build [.nl, .nl] [(0, 1, (tm 10)), (1, 1, (tm 11))]),
 Qd 4 13 (.bslT 2 [(tm 12)]),
 Qd 5 14 (.build [.nl, .nl, (.t (.i .i64 0))] [(0, 1, (tm 9)), (1, 1, (tm 13)), (2, 1, (kz 1))]),
 Qd 6 15 (.bslT 3 [(tm 14)]),
 Qd 7 16 (.build [(.t (.i .i64 0)), .nl] [(0, 1, (kz 1)), (1, 1, (tm 15))]),
 Qd 8 2 (.alloc 24 [(.t (.i .i64 0)), .nl]),
 Qn 9 (.store 2 (tm 2) (tm 16))] [2] []
abbrev f11r3 : Pc := .reg [
 Qd 0 18 (.load true 2 (tm 2)),
 Qd 1 19 (.bslT 1 [(kz 2)]),
 Qd 2 20 (.bslT 1 [(tm 19)]),
 Qd 3 21 (.build [(.t (.i .i64 0)), .nl] [(1, 1, (tm 20))]),
 Qd 4 22 (.bslT 1 [(kz 7)]),
 Qd 5 23 (.bslT 1 [(tm 22)]),
 Qd 6 24 (.call 12 [(tm 18), (tm 21), (tm 23)]),
 Qd 7 17 (.mv (tm 24)),
 Qd 8 25 (.ext 0 (tm 17)),
 Qd 9 26 (.ext 1 (tm 17)),
 Qd 10 3 (.mv (tm 25)),
 Qd 11 4 (.mv (tm 26))] [3, 4] []
abbrev f11r4 : Pc := .reg [
 Qd 0 27 (.mv (tm 3)),
 Qd 1 28 (.isnilP false (tm 27)),
 Qd 2 29 (.mv (tm 28)),
 Gf 3 30 29 (.mv (tm 4)),
 Gf 4 31 29 (.bin .neq (tm 30) (kz 0)),
 Qd 5 32 (.pick (tm 29) kT (tm 31)),
 Qd 6 33 (.mv (tm 32)),
 Gf 7 34 33 (.mv (tm 3)),
 Gf 8 35 33 (.call 14 [(tm 34)]),
 Gf 9 36 33 (.lenL (tm 35)),
 Gf 10 37 33 (.bin .neq (tm 36) (kz 1)),
 Qd 11 38 (.pick (tm 33) kT (tm 37)),
 Qd 12 39 (.mv (tm 38)),
 Gf 13 40 39 (.mv (tm 3)),
 Gf 14 41 39 (.call 21 [(tm 40), (kz 0)]),
 Gf 15 42 39 (.bin .neq (tm 41) (kz 0)),
 Qd 16 43 (.pick (tm 39) kT (tm 42)),
 Qd 17 44 (.mv (tm 43)),
 Gf 18 45 44 (.mv (tm 3)),
 Gf 19 46 44 (.call 21 [(tm 45), (kz 0)]),
 Gf 20 47 44 (.bin .neq (tm 46) (kz 0)),
 Qd 21 48 (.pick (tm 44) kT (tm 47))] [3, 48] []
abbrev f11r5 : Pc := .reg [
 Qd 0 0 (.mv kF)] [0] []
abbrev f11r6 : Pc := .reg [
 Qd 0 50 (.mv (tm 3)),
 Qd 1 51 (.call 17 [(tm 50)]),
 Qd 2 49 (.mv (tm 51)),
 Qd 3 52 (.ext 0 (tm 49)),
 Qd 4 53 (.ext 1 (tm 49)),
 Qd 5 5 (.mv (tm 52)),
 Qd 6 6 (.mv (tm 53))] [3, 5, 6] []
abbrev f11r7 : Pc := .reg [
 Qd 0 54 (.mv (tm 6)),
 Qd 1 55 (.mv (tm 54)),
 Gt 2 56 55 (.mv (tm 5)),
 Gt 3 57 55 (.lenL (tm 56)),
 Gt 4 58 55 (.bin .eql (tm 57) (kz 1)),
 Qd 5 59 (.pick (tm 55) (tm 58) kF),
 Qd 6 60 (.mv (tm 59)),
 Gt 7 61 60 (.mv (tm 5)),
 Gt 8 62 60 (.ixS 1 (tm 61) (kz 0)),
 Gt 9 63 60 (.load false 1 (tm 62)),
 Gt 10 64 60 (.lenL (tm 63)),
 Gt 11 65 60 (.bin .eql (tm 64) (kz 1)),
 Qd 12 66 (.pick (tm 60) (tm 65) kF),
 Qd 13 67 (.mv (tm 66)),
 Gt 14 68 67 (.mv (tm 5)),
 Gt 15 69 67 (.ixS 1 (tm 68) (kz 0)),
 Gt 16 70 67 (.load false 1 (tm 69)),
 Gt 17 71 67 (.ixS 1 (tm 70) (kz 0)),
 Gt 18 72 67 (.load false 1 (tm 71)),
 Gt 19 73 67 (.bin .eql (tm 72) (kz 14)),
 Qd 20 74 (.pick (tm 67) (tm 73) kF),
 Qd 21 75 (.mv (tm 74)),
 Gt 22 76 75 (.mv (tm 3)),
 Gt 23 77 75 (.call 18 [(tm 76)]),
 Gt 24 78 75 (.bin .eql (tm 77) (kz 1)),
 Qd 25 79 (.pick (tm 75) (tm 78) kF),
 Qd 26 80 (.mv (tm 79)),
 Gt 27 81 80 (.mv (tm 3)),
 Gt 28 82 80 (.call 29 [(tm 81), (kz 0)]),
 Gt 29 83 80 (.bin .eql (tm 82) (kz 4)),
 Qd 30 84 (.pick (tm 80) (tm 83) kF),
 Qd 31 0 (.mv (tm 84))] [0] []
abbrev f11b : Pc := (.seq f11r0 (.seq f11r1 (.seq f11r2 (.seq f11r3 (.seq (.seq f11r4 (.cond (tm 48) (.seq f11r5 .ret) .skip)) (.seq f11r6 (.seq f11r7 .ret)))))))
abbrev f11 : Pfn := ⟨0, 85, [.tmp 0], f11b⟩
def f11K : Array (List Nat) := #[[], [1], [2], [3, 4], [3, 48], [0], [3, 5, 6], [0]]
def f11H : Array (List Nat) := #[[], [], [], [], [], [], [], []]
def f11A : Ann := ⟨fun r => f11K.getD r [], fun r => f11H.getD r [], fun r i => ([(9999, 9999)] : List (Nat × Nat)).contains (r, i)⟩
theorem f11C : compF Go.Proofs.Tryz.prog f11A 11 = some f11 := by kernel_rfl

abbrev f12r0 : Pc := .reg [
 Qd 0 3 (.box 24 2 (tm 0)),
 Qd 1 4 (.box 27 2 (tm 1)),
 Qd 2 6 (.mv (.c (.t .np))),
 Qd 3 7 (.mv (kz 0))] [2, 3, 4] []
abbrev f12r1 : Pc := .reg [
 Qd 0 9 (.load true 2 (tm 3)),
 Qd 1 10 (.call 30 [(tm 9)]),
 Qd 2 11 (.un .not (tm 10)),
 Qd 3 12 (.mv (tm 11)),
 Gf 4 13 12 (.load true 2 (tm 3)),
 Gf 5 14 12 (.mv (tm 2)),
 Gf 6 15 12 (.call 31 [(tm 13), (tm 14)]),
 Gf 7 16 12 (.un .not (tm 15)),
 Qd 8 17 (.pick (tm 12) kT (tm 16)),
 Qd 9 18 (.mv (tm 17)),
 Gf 10 19 18 (.load true 2 (tm 4)),
 Gf 11 20 18 (.call 32 [(tm 19)]),
 Gf 12 21 18 (.un .not (tm 20)),
 Qd 13 22 (.pick (tm 18) kT (tm 21)),
 Qd 14 23 (.mv (tm 22)),
 Gf 15 24 23 (.fad 1 (tm 3)),
 Gf 16 25 23 (.load false 1 (tm 24)),
 Gf 17 26 23 (.mkfn 34 [(tm 4)]),
 Gf 18 27 23 (.call 33 [(tm 25), (tm 26)]),
 Qd 19 28 (.pick (tm 23) kT (tm 27))] [2, 3, 4, 28] []
abbrev f12r2 : Pc := .reg [
 Qd 0 6 (.mv (.c (.t .np))),
 Qd 1 7 (.mv (kz 1))] [6, 7] []
abbrev f12r3 : Pc := .reg [
 Qd 0 29 (.load true 2 (tm 3)),
 Qd 1 30 (.load true 2 (tm 4)),
 Qd 2 31 (.mv (tm 2)),
 Qd 3 32 (.callq 35 [(tm 31)]),
 Qd 4 33 (.build [(.t (.i .i64 0)), .nl, (.t (.i .i64 0)), .nl, .nl, .nl, .nl, .nl, .nl, .nl, .nl, (.t (.i .i64 0)), .nl, .nl, .nl] [(0, 2, (tm 29)), (2, 2, (tm 30)), (10, 1, (tm 32))]),
 Qd 5 34 (.box 78 15 (tm 33)),
 Qd 6 8 (.mv (tm 34))] [8] []
abbrev f12r4 : Pc := .reg [
 Qd 0 35 (.mv (tm 8)),
 Qd 1 36 (.call 36 [(tm 35)])] [8] []
abbrev f12r5 : Pc := .reg [
 Qd 0 37 (.mv (tm 8)),
 Qd 1 38 (.call 37 [(tm 37)])] [8] []
abbrev f12r6 : Pc := .reg [
 Qd 0 39 (.mv (tm 8)),
 Qd 1 6 (.mv (tm 39)),
 Qd 2 7 (.mv (kz 0))] [6, 7] []
abbrev f12b : Pc := (.seq f12r0 (.seq (.seq f12r1 (.cond (tm 28) (.seq f12r2 .ret) .skip)) (.seq f12r3 (.seq f12r4 (.seq f12r5 (.seq f12r6 .ret))))))
abbrev f12 : Pfn := ⟨3, 40, [.tmp 6, .tmp 7], f12b⟩
def f12K : Array (List Nat) := #[[2, 3, 4], [2, 3, 4, 28], [6, 7], [8], [8], [8], [6, 7]]
def f12H : Array (List Nat) := #[[], [], [], [], [], [], []]
def f12A : Ann := ⟨fun r => f12K.getD r [], fun r => f12H.getD r [], fun r i => ([] : List (Nat × Nat)).contains (r, i)⟩
theorem f12C : compF Go.Proofs.Tryz.prog f12A 12 = some f12 := by kernel_rfl

abbrev f13r0 : Pc := .reg [
 Qd 0 3 (.box 24 2 (tm 0)),
 Qd 1 4 (.box 35 2 (tm 1)),
 Qd 2 6 (.mv kF)] [2, 3, 4] []
abbrev f13r1 : Pc := .reg [
 Qd 0 9 (.load true 2 (tm 3)),
 Qd 1 10 (.call 38 [(tm 9)]),
 Qd 2 11 (.un .not (tm 10)),
 Qd 3 12 (.mv (tm 11)),
 Gf 4 13 12 (.load true 2 (tm 3)),
 Gf 5 14 12 (.mv (tm 2)),
 Gf 6 15 12 (.call 39 [(tm 13), (tm 14)]),
 Gf 7 16 12 (.un .not (tm 15)),
 Qd 8 17 (.pick (tm 12) kT (tm 16)),
 Qd 9 18 (.mv (tm 17)),
 Gf 10 19 18 (.load true 2 (tm 4)),
 Gf 11 20 18 (.call 40 [(tm 19)]),
 Gf 12 21 18 (.un .not (tm 20)),
 Qd 13 22 (.pick (tm 18) kT (tm 21))] [3, 4, 22] []
abbrev f13r2 : Pc := .reg [
 Qd 0 6 (.mv kF)] [6] [3, 4]
abbrev f13r3 : Pc := .reg [
 Qd 0 23 (.fad 1 (tm 3)),
 Qd 1 24 (.load false 1 (tm 23)),
 Qd 2 25 (.lenL (tm 24)),
 Qd 3 26 (.mv (kz 0))] [4, 24, 25, 26] [3]
abbrev f13r4 : Pc := .reg [
 Qd 0 27 (.bin .lss (tm 26) (tm 25))] [4, 24, 25, 26, 27] []
abbrev f13r5 : Pc := .reg [
 Qd 0 28 (.ixS 3 (tm 24) (tm 26)),
 Qd 1 29 (.load true 3 (tm 28)),
 Qd 2 8 (.alloc 53 [.nl, .nl, (.t (.i .i64 0))]),
 Qn 3 (.store 3 (tm 8) (tm 29))] [4, 8, 24, 25, 26] []
abbrev f13r6 : Pc := .reg [
 Qd 0 30 (.fad 1 (tm 8)),
 Qd 1 31 (.load false 1 (tm 30)),
 Qd 2 32 (.lenL (tm 31)),
 Qd 3 33 (.fad 1 (tm 4)),
 Qd 4 34 (.load false 1 (tm 33)),
 Qd 5 35 (.lenL (tm 34)),
 Qd 6 36 (.bin .gtr (tm 32) (tm 35))] [4, 24, 25, 26, 36] [8]
abbrev f13r7 : Pc := .reg [
 Qd 0 6 (.mv kF)] [6] [4]
abbrev f13r8 : Pc := .reg [
 Qd 0 37 (.bin .add (tm 26) (kz 1)),
 Qd 1 26 (.mv (tm 37))] [4, 24, 25, 26] []
def f13l0 : Pc := (.seq f13r4 (.seq (.cond (tm 27) .skip (.exit 0)) (.seq (.block 1 (.seq f13r5 (.seq f13r6 (.cond (tm 36) (.seq f13r7 .ret) .skip)))) f13r8)))
theorem f13l0e (C : Cfg) (s : St) : evL C f13l0 s = evL C (.seq f13r4 (.seq (.cond (tm 27) .skip (.exit 0)) (.seq (.block 1 (.seq f13r5 (.seq f13r6 (.cond (tm 36) (.seq f13r7 .ret) .skip)))) f13r8))) s := rfl
abbrev f13r9 : Pc := .reg [
 Qd 0 6 (.mv kT)] [6] [4]
abbrev f13b : Pc := (.seq f13r0 (.seq (.seq f13r1 (.cond (tm 22) (.seq f13r2 .ret) .skip)) (.seq (.seq f13r3 (.block 0 (.loop f13l0))) (.seq f13r9 .ret))))
abbrev f13 : Pfn := ⟨3, 38, [.tmp 6], f13b⟩
def f13K : Array (List Nat) := #[[2, 3, 4], [3, 4, 22], [6], [4, 24, 25, 26], [4, 24, 25, 26, 27], [4, 8, 24, 25, 26], [4, 24, 25, 26, 36], [6], [4, 24, 25, 26], [6]]
def f13H : Array (List Nat) := #[[], [], [3, 4], [3], [], [], [8], [4], [], [4]]
def f13A : Ann := ⟨fun r => f13K.getD r [], fun r => f13H.getD r [], fun r i => ([] : List (Nat × Nat)).contains (r, i)⟩
theorem f13C : compF Go.Proofs.Tryz.prog f13A 13 = some f13 := by kernel_rfl

abbrev f14r0 : Pc := .reg [
 Qd 0 2 (.nilv 9 1)] [0] []
abbrev f14r1 : Pc := .reg [
 Qd 0 3 (.mv (tm 0)),
 Qd 1 4 (.nchk (tm 3)),
 Qd 2 5 (.fad 9 (tm 4)),
 Qd 3 6 (.load false 1 (tm 5)),
 Qd 4 7 (.call 41 [(tm 6)]),
 Qd 5 2 (.mv (tm 7))] [2] []
abbrev f14b : Pc := (.seq f14r0 (.seq f14r1 .ret))
abbrev f14 : Pfn := ⟨1, 8, [.tmp 2], f14b⟩
def f14K : Array (List Nat) := #[[0], [2]]
def f14H : Array (List Nat) := #[[], []]
def f14A : Ann := ⟨fun r => f14K.getD r [], fun r => f14H.getD r [], fun r i => ([] : List (Nat × Nat)).contains (r, i)⟩
theorem f14C : compF Go.Proofs.Tryz.prog f14A 14 = some f14 := by kernel_rfl

abbrev f15r0 : Pc := .reg [
 Qd 0 3 (.box 24 2 (tm 0)),
 Qd 1 4 (.box 35 2 (tm 1)),
 Qd 2 6 (.nilv 44 11)] [2, 3, 4] [6, 7, 55]
abbrev f15r1 : Pc := .reg [
 Qd 0 7 (.nilv 44 11)] [2, 3, 4, 7] []
abbrev f15r2 : Pc := .reg [
 Qd 0 11 (.fad 1 (tm 3)),
 Qd 1 12 (.load false 1 (tm 11)),
 Qd 2 13 (.ixS 3 (tm 12) (kz 0)),
 Qd 3 14 (.load true 3 (tm 13)),
 Qd 4 15 (.mv (tm 2)),
 Qd 5 16 (.call 19 [(tm 14), (tm 15)]),
 Qd 6 17 (.lenL (tm 16)),
 Qd 7 18 (.mv (kz 0))] [2, 4, 7, 16, 17, 18] [3]
abbrev f15r3 : Pc := .reg [
 Qd 0 19 (.bin .lss (tm 18) (tm 17))] [2, 4, 7, 16, 17, 18, 19] []
abbrev f15r4 : Pc := .reg [
 Qd 0 20 (.ixS 4 (tm 16) (tm 18)),
 Qd 1 21 (.load true 4 (tm 20)),
 Qd 2 9 (.alloc 82 [(.t (.i .i64 0)), (.t (.i .i64 0)), (.t (.i .i64 0)), (.t (.i .i64 0))]),
 Qn 3 (.store 4 (tm 9) (tm 21))] [2, 4, 7, 9, 16, 17, 18] []
abbrev f15r5 : Pc := .reg [
 Qd 0 22 (.fad 1 (tm 4)),
 Qd 1 23 (.load false 1 (tm 22)),
 Qd 2 24 (.fad 2 (tm 9)),
 Qd 3 25 (.load false 1 (tm 24)),
 Qd 4 26 (.ixS 1 (tm 23) (tm 25)),
 Qd 5 27 (.load false 1 (tm 26)),
 Qd 6 10 (.mv (tm 27))] [2, 4, 7, 9, 10, 16, 17, 18] []
abbrev f15r6 : Pc := .reg [
 Qd 0 28 (.mv (tm 7)),
 Qd 1 29 (.mv (tm 10)),
 Qd 2 30 (.fad 0 (tm 9)),
 Qd 3 31 (.load false 1 (tm 30)),
 Qd 4 32 (.fad 1 (tm 9)),
 Qd 5 33 (.load false 1 (tm 32)),
 Qd 6 34 (.bin .add (tm 31) (tm 33)),
 Qd 7 35 (.mv (tm 10)),
 Qd 8 36 (.lenL (tm 35)),
 Qd 9 37 (.bin .rem (tm 34) (tm 36)),
 Qd 10 38 (.ixS 1 (tm 29) (tm 37)),
 Qd 11 39 (.load false 1 (tm 38)),
 Qd 12 40 (.fad 0 (tm 9)),
 Qd 13 41 (.load false 1 (tm 40)),
 Qd 14 42 (.fad 1 (tm 9)),
 Qd 15 43 (.load false 1 (tm 42)),
 Qd 16 44 (.fad 2 (tm 9)),
 Qd 17 45 (.load false 1 (tm 44)),
 Qd 18 46 (.fad 0 (tm 4)),
 Qd 19 47 (.load false 1 (tm 46)),
 Qd 20 48 (.mv (tm 2)),
 Qd 21 49 (.fad 0 (tm 9)),
 Qd 22 50 (.load false 1 (tm 49)),
 Qd 23 51 (.ixS 1 (tm 48) (tm 50)),
 Qd 24 52 (.load false 1 (tm 51)),
 Qd 25 53 (.build [(.t (.i .i64 0)), (.t (.i .i64 0)), (.t (.i .i64 0)), (.t (.i .i64 0)), (.t (.i .i64 0)), (.t (.i .i64 0)), (.t (.i .i64 0)), (.t (.i .i64 0)), (.t (.i .i64 0)), (.t (.i .i64 0)), .nl] [(0, 1, (kz 1)), (2, 1, (tm 39)), (4, 1, (kz 1)), (6, 1, (tm 41)), (7, 1, (tm 43)), (8, 1, (tm 45)), (9, 1, (tm 47)), (10, 1, (tm 52))]),
 Qd 26 54 (.bslT 11 [(tm 53)]),
 Qd 27 55 (.app 44 11 104 (tm 28) (tm 54)),
 Qd 28 7 (.mv (tm 55))] [2, 4, 7, 16, 17, 18] [9]
abbrev f15r7 : Pc := .reg [
 Qd 0 56 (.bin .add (tm 18) (kz 1)),
 Qd 1 18 (.mv (tm 56))] [2, 4, 7, 16, 17, 18] []
def f15l0 : Pc := (.seq f15r3 (.seq (.cond (tm 19) .skip (.exit 0)) (.seq (.block 1 (.seq f15r4 (.seq f15r5 f15r6))) f15r7)))
theorem f15l0e (C : Cfg) (s : St) : evL C f15l0 s = evL C (.seq f15r3 (.seq (.cond (tm 19) .skip (.exit 0)) (.seq (.block 1 (.seq f15r4 (.seq f15r5 f15r6))) f15r7))) s := rfl
abbrev f15r8 : Pc := .reg [
 Qd 0 57 (.mv (tm 7)),
 Qd 1 6 (.mv (tm 57))] [6] [4]
abbrev f15b : Pc := (.seq f15r0 (.seq f15r1 (.seq (.seq f15r2 (.block 0 (.loop f15l0))) (.seq f15r8 .ret))))
abbrev f15 : Pfn := ⟨3, 58, [.tmp 6], f15b⟩
def f15K : Array (List Nat) := #[[2, 3, 4], [2, 3, 4, 7], [2, 4, 7, 16, 17, 18], [2, 4, 7, 16, 17, 18, 19], [2, 4, 7, 9, 16, 17, 18], [2, 4, 7, 9, 10, 16, 17, 18], [2, 4, 7, 16, 17, 18], [2, 4, 7, 16, 17, 18], [6]]
def f15H : Array (List Nat) := #[[6, 7, 55], [], [3], [], [], [], [9], [], [4]]
def f15A : Ann := ⟨fun r => f15K.getD r [], fun r => f15H.getD r [], fun r i => ([] : List (Nat × Nat)).contains (r, i)⟩
theorem f15C : compF Go.Proofs.Tryz.prog f15A 15 = some f15 := by kernel_rfl

abbrev f16r0 : Pc := .reg [
 Qd 0 1 (.box 44 11 (tm 0)),
 Qd 1 2 (.mv (.c (.t (.s []))))] [1] []
abbrev f16r1 : Pc := .reg [
 Qd 0 3 (.mv (.c (.t (.s []))))] [1, 3] []
abbrev f16r2 : Pc := .reg [
 Qd 0 6 (.load true 11 (tm 1)),
 Qd 1 7 (.call 42 [(tm 6)]),
 Qd 2 8 (.lenL (tm 7)),
 Qd 3 9 (.mv (kz 0))] [3, 7, 8, 9] [1]
abbrev f16r3 : Pc := .reg [
 Qd 0 10 (.bin .lss (tm 9) (tm 8))] [3, 7, 8, 9, 10] []
abbrev f16r4 : Pc := .reg [
 Qd 0 11 (.ixS 1 (tm 7) (tm 9)),
 Qd 1 12 (.load false 1 (tm 11)),
 Qd 2 5 (.mv (tm 12))] [3, 5, 7, 8, 9] []
abbrev f16r5 : Pc := .reg [
 Qd 0 13 (.mv (tm 3)),
 Qd 1 14 (.mv (tm 5)),
 Qd 2 15 (.call 43 [(tm 14)]),
 Qd 3 16 (.bin .add (tm 13) (tm 15)),
 Qd 4 3 (.mv (tm 16))] [3, 7, 8, 9] []
abbrev f16r6 : Pc := .reg [
 Qd 0 17 (.bin .add (tm 9) (kz 1)),
 Qd 1 9 (.mv (tm 17))] [3, 7, 8, 9] []
def f16l0 : Pc := (.seq f16r3 (.seq (.cond (tm 10) .skip (.exit 0)) (.seq (.block 1 (.seq f16r4 f16r5)) f16r6)))
theorem f16l0e (C : Cfg) (s : St) : evL C f16l0 s = evL C (.seq f16r3 (.seq (.cond (tm 10) .skip (.exit 0)) (.seq (.block 1 (.seq f16r4 f16r5)) f16r6))) s := rfl
abbrev f16r7 : Pc := .reg [
 Qd 0 18 (.mv (tm 3)),
 Qd 1 19 (.mv (tm 3)),
 Qd 2 20 (.call 44 [(tm 19)]),
 Qd 3 21 (.call 43 [(tm 20)]),
 Qd 4 22 (.bin .add (tm 18) (tm 21)),
 Qd 5 3 (.mv (tm 22))] [3] []
abbrev f16r8 : Pc := .reg [
 Qd 0 23 (.mv (tm 3)),
 Qd 1 24 (.lenS (tm 23)),
 Qd 2 25 (.call 43 [(tm 24)]),
 Qd 3 26 (.mv (tm 3)),
 Qd 4 27 (.bin .add (tm 25) (tm 26)),
 Qd 5 2 (.mv (tm 27))] [2] []
abbrev f16b : Pc := (.seq f16r0 (.seq f16r1 (.seq (.seq f16r2 (.block 0 (.loop f16l0))) (.seq f16r7 (.seq f16r8 .ret)))))
abbrev f16 : Pfn := ⟨1, 28, [.tmp 2], f16b⟩
def f16K : Array (List Nat) := #[[1], [1, 3], [3, 7, 8, 9], [3, 7, 8, 9, 10], [3, 5, 7, 8, 9], [3, 7, 8, 9], [3, 7, 8, 9], [3], [2]]
def f16H : Array (List Nat) := #[[], [], [1], [], [], [], [], [], []]
def f16A : Ann := ⟨fun r => f16K.getD r [], fun r => f16H.getD r [], fun r i => ([] : List (Nat × Nat)).contains (r, i)⟩
theorem f16C : compF Go.Proofs.Tryz.prog f16A 16 = some f16 := by kernel_rfl

abbrev f17r0 : Pc := .reg [
 Qd 0 2 (.nilv 42 1),
 Qd 1 3 (.mv kF)] [0] []
abbrev f17r1 : Pc := .reg [
 Qd 0 4 (.mv (tm 0)),
 Qd 1 5 (.nchk (tm 4)),
 Qd 2 6 (.fad 11 (tm 5)),
 Qd 3 7 (.load false 1 (tm 6)),
 Qd 4 8 (.mv (tm 0)),
 Qd 5 9 (.nchk (tm 8)),
 Qd 6 10 (.fad 0 (tm 9)),
 Qd 7 11 (.fad 1 (tm 10)),
 Qd 8 12 (.load false 1 (tm 11)),
 Qd 9 13 (.lenL (tm 12)),
 Qd 10 14 (.bin .lss (tm 7) (tm 13))] [0, 14] []
abbrev f17r2 : Pc := .reg [
 Qd 0 2 (.nilv 42 1),
 Qd 1 3 (.mv kF)] [2, 3] []
abbrev f17r3 : Pc := .reg [
 Qd 0 15 (.mv (tm 0)),
 Qd 1 16 (.nchk (tm 15)),
 Qd 2 17 (.fad 10 (tm 16)),
 Qd 3 18 (.load false 1 (tm 17)),
 Qd 4 19 (.call 35 [(tm 18)]),
 Qd 5 2 (.mv (tm 19)),
 Qd 6 3 (.mv kT)] [2, 3] []
abbrev f17b : Pc := (.seq f17r0 (.seq (.seq f17r1 (.cond (tm 14) (.seq f17r2 .ret) .skip)) (.seq f17r3 .ret)))
abbrev f17 : Pfn := ⟨1, 20, [.tmp 2, .tmp 3], f17b⟩
def f17K : Array (List Nat) := #[[0], [0, 14], [2, 3], [2, 3]]
def f17H : Array (List Nat) := #[[], [], [], []]
def f17A : Ann := ⟨fun r => f17K.getD r [], fun r => f17H.getD r [], fun r i => ([] : List (Nat × Nat)).contains (r, i)⟩
theorem f17C : compF Go.Proofs.Tryz.prog f17A 17 = some f17 := by kernel_rfl

abbrev f18r0 : Pc := .reg [
 Qd 0 2 (.mv (kz 0))] [0] []
abbrev f18r1 : Pc := .reg [
 Qd 0 3 (.mv (kz 0))] [0, 3] []
abbrev f18r2 : Pc := .reg [
 Qd 0 6 (.mv (tm 0)),
 Qd 1 7 (.nchk (tm 6)),
 Qd 2 8 (.fad 4 (tm 7)),
 Qd 3 9 (.load true 5 (tm 8)),
 Qd 4 10 (.mv (kz 0))] [3, 9, 10] []
abbrev f18r3 : Pc := .reg [
 Qd 0 11 (.bin .lss (tm 10) (kz 5))] [3, 9, 10, 11] []
abbrev f18r4 : Pc := .reg [
 Qd 0 12 (.ixV false 5 1 (tm 9) (tm 10)),
 Qd 1 5 (.mv (tm 12))] [3, 5, 9, 10] []
abbrev f18r5 : Pc := .reg [
 Qd 0 13 (.mv (tm 3)),
 Qd 1 14 (.mv (tm 5)),
 Qd 2 15 (.lenL (tm 14)),
 Qd 3 16 (.bin .add (tm 13) (tm 15)),
 Qd 4 3 (.mv (tm 16))] [3, 9, 10] []
abbrev f18r6 : Pc := .reg [
 Qd 0 17 (.bin .add (tm 10) (kz 1)),
 Qd 1 10 (.mv (tm 17))] [3, 9, 10] []
def f18l0 : Pc := (.seq f18r3 (.seq (.cond (tm 11) .skip (.exit 0)) (.seq (.block 1 (.seq f18r4 f18r5)) f18r6)))
theorem f18l0e (C : Cfg) (s : St) : evL C f18l0 s = evL C (.seq f18r3 (.seq (.cond (tm 11) .skip (.exit 0)) (.seq (.block 1 (.seq f18r4 f18r5)) f18r6))) s := rfl
abbrev f18r7 : Pc := .reg [
 Qd 0 18 (.mv (tm 3)),
 Qd 1 2 (.mv (tm 18))] [2] []
abbrev f18b : Pc := (.seq f18r0 (.seq f18r1 (.seq (.seq f18r2 (.block 0 (.loop f18l0))) (.seq f18r7 .ret))))
abbrev f18 : Pfn := ⟨1, 19, [.tmp 2], f18b⟩
def f18K : Array (List Nat) := #[[0], [0, 3], [3, 9, 10], [3, 9, 10, 11], [3, 5, 9, 10], [3, 9, 10], [3, 9, 10], [2]]
def f18H : Array (List Nat) := #[[], [], [], [], [], [], [], []]
def f18A : Ann := ⟨fun r => f18K.getD r [], fun r => f18H.getD r [], fun r i => ([] : List (Nat × Nat)).contains (r, i)⟩
theorem f18C : compF Go.Proofs.Tryz.prog f18A 18 = some f18 := by kernel_rfl

abbrev f19r0 : Pc := .reg [
 Qd 0 2 (.box 53 3 (tm 0)),
 Qd 1 4 (.nilv 82 4)] [1, 2] [4, 10, 69, 87]
abbrev f19r1 : Pc := .reg [
 Qd 0 5 (.nilv 91 2)] [1, 2, 5] []
abbrev f19r2 : Pc := .reg [
 Qd 0 14 (.mv (tm 1)),
 Qd 1 15 (.lenL (tm 14)),
 Qd 2 16 (.mv (kz 0))] [1, 2, 5, 14, 15, 16] []
abbrev f19r3 : Pc := .reg [
 Qd 0 17 (.bin .lss (tm 16) (tm 15))] [1, 2, 5, 14, 15, 16, 17] []
abbrev f19r4 : Pc := .reg [
 Qd 0 18 (.ixS 1 (tm 14) (tm 16)),
 Qd 1 19 (.load false 1 (tm 18)),
 Qd 2 7 (.mv (tm 19))] [1, 2, 5, 7, 14, 15, 16] []
abbrev f19r5 : Pc := .reg [
 Qd 0 21 (.fad 0 (tm 2)),
 Qd 1 22 (.load false 1 (tm 21)),
 Qd 2 23 (.mv (tm 7)),
 Qd 3 24 (.call 45 [(tm 22), (tm 23)]),
 Qd 4 20 (.mv (tm 24)),
 Qd 5 25 (.ext 0 (tm 20)),
 Qd 6 26 (.ext 1 (tm 20)),
 Qd 7 8 (.alloc 88 [(.t (.i .i64 0)), (.t (.i .i64 0)), (.t (.i .i64 0)), (.t (.i .i64 0))]),
 Qn 8 (.store 4 (tm 8) (tm 25)),
 Qd 9 9 (.mv (tm 26))] [1, 2, 5, 8, 14, 15, 16] []
abbrev f19r6 : Pc := .reg [
 Qd 0 27 (.mv (tm 5)),
 Qd 1 28 (.fad 0 (tm 8)),
 Qd 2 29 (.load false 1 (tm 28)),
 Qd 3 30 (.fad 1 (tm 8)),
 Qd 4 31 (.load false 1 (tm 30)),
 Qd 5 32 (.build [(.t (.i .i64 0)), (.t (.i .i64 0))] [(0, 1, (tm 29)), (1, 1, (tm 31))]),
 Qd 6 33 (.bslT 2 [(tm 32)]),
 Qd 7 34 (.app 91 2 16 (tm 27) (tm 33)),
 Qd 8 5 (.mv (tm 34))] [1, 2, 5, 14, 15, 16] [8]
abbrev f19r7 : Pc := .reg [
 Qd 0 35 (.bin .add (tm 16) (kz 1)),
 Qd 1 16 (.mv (tm 35))] [1, 2, 5, 14, 15, 16] []
def f19l0 : Pc := (.seq f19r3 (.seq (.cond (tm 17) .skip (.exit 0)) (.seq (.block 1 (.seq f19r4 (.seq f19r5 f19r6))) f19r7)))
theorem f19l0e (C : Cfg) (s : St) : evL C f19l0 s = evL C (.seq f19r3 (.seq (.cond (tm 17) .skip (.exit 0)) (.seq (.block 1 (.seq f19r4 (.seq f19r5 f19r6))) f19r7))) s := rfl
abbrev f19r8 : Pc := .reg [
 Qd 0 10 (.nilv 82 4)] [1, 2, 5, 10] []
abbrev f19r9 : Pc := .reg [
 Qd 0 11 (.mv (kz 0))] [1, 2, 5, 10, 11] []
abbrev f19r10 : Pc := .reg [
 Qd 0 36 (.mv (tm 11)),
 Qd 1 37 (.mv (tm 1)),
 Qd 2 38 (.lenL (tm 37)),
 Qd 3 39 (.bin .lss (tm 36) (tm 38))] [1, 2, 5, 10, 11, 39] []
abbrev f19r12 : Pc := .reg [
 Qd 0 43 (.fad 0 (tm 2)),
 Qd 1 44 (.load false 1 (tm 43)),
 Qd 2 45 (.mv (tm 1)),
 Qd 3 46 (.mv (tm 11)),
 Qd 4 47 (.ixS 1 (tm 45) (tm 46)),
 Qd 5 48 (.load false 1 (tm 47)),
 Qd 6 49 (.callq 45 [(tm 44), (tm 48)]),
 Qd 7 42 (.mv (tm 49)),
 Qd 8 50 (.ext 0 (tm 42)),
 Qd 9 51 (.ext 1 (tm 42)),
 Qd 10 12 (.alloc 88 [(.t (.i .i64 0)), (.t (.i .i64 0)), (.t (.i .i64 0)), (.t (.i .i64 0))]),
 Qn 11 (.store 4 (tm 12) (tm 50)),
 Qd 12 13 (.mv (tm 51))] [1, 2, 5, 10, 11, 12] []
abbrev f19r13 : Pc := .reg [
 Qd 0 52 (.mv (tm 5)),
 Qd 1 53 (.fad 1 (tm 2)),
 Qd 2 54 (.load false 1 (tm 53)),
 Qd 3 55 (.lenL (tm 54)),
 Qd 4 56 (.fad 2 (tm 2)),
 Qd 5 57 (.load false 1 (tm 56)),
 Qd 6 58 (.mv (tm 11)),
 Qd 7 59 (.call 46 [(tm 52), (tm 55), (tm 57), (tm 58), (kz 0)]),
 Qd 8 60 (.bin .geq (tm 59) (kz 0))] [1, 2, 5, 10, 11, 12, 60] []
abbrev f19r14 : Pc := .reg [
 Qd 0 61 (.mv (tm 10)),
 Qd 1 62 (.mv (tm 11)),
 Qd 2 63 (.fad 0 (tm 12)),
 Qd 3 64 (.load false 1 (tm 63)),
 Qd 4 65 (.fad 2 (tm 12)),
 Qd 5 66 (.load false 1 (tm 65)),
 Qd 6 67 (.build [(.t (.i .i64 0)), (.t (.i .i64 0)), (.t (.i .i64 0)), (.t (.i .i64 0))] [(0, 1, (tm 62)), (1, 1, (kz 0)), (2, 1, (tm 64)), (3, 1, (tm 66))]),
 Qd 7 68 (.bslT 4 [(tm 67)]),
 Qd 8 69 (.app 82 4 32 (tm 61) (tm 68)),
 Qd 9 10 (.mv (tm 69))] [1, 2, 5, 10, 11, 12] []
abbrev f19r15 : Pc := .reg [
 Qd 0 70 (.mv (tm 5)),
 Qd 1 71 (.fad 1 (tm 2)),
 Qd 2 72 (.load false 1 (tm 71)),
 Qd 3 73 (.lenL (tm 72)),
 Qd 4 74 (.fad 2 (tm 2)),
 Qd 5 75 (.load false 1 (tm 74)),
 Qd 6 76 (.mv (tm 11)),
 Qd 7 77 (.call 46 [(tm 70), (tm 73), (tm 75), (tm 76), (kz 1)]),
 Qd 8 78 (.bin .geq (tm 77) (kz 0))] [1, 2, 5, 10, 11, 12, 78] []
abbrev f19r16 : Pc := .reg [
 Qd 0 79 (.mv (tm 10)),
 Qd 1 80 (.mv (tm 11)),
 Qd 2 81 (.fad 1 (tm 12)),
 Qd 3 82 (.load false 1 (tm 81)),
 Qd 4 83 (.fad 3 (tm 12)),
 Qd 5 84 (.load false 1 (tm 83)),
 Qd 6 85 (.build [(.t (.i .i64 0)), (.t (.i .i64 0)), (.t (.i .i64 0)), (.t (.i .i64 0))] [(0, 1, (tm 80)), (1, 1, (kz 1)), (2, 1, (tm 82)), (3, 1, (tm 84))]),
 Qd 7 86 (.bslT 4 [(tm 85)]),
 Qd 8 87 (.app 82 4 32 (tm 79) (tm 86)),
 Qd 9 10 (.mv (tm 87))] [1, 2, 5, 10, 11] [12]
abbrev f19r11 : Pc := .reg [
 Qd 0 40 (.mv (tm 11)),
 Qd 1 41 (.bin .add (tm 40) (kz 1)),
 Qd 2 11 (.mv (tm 41))] [1, 2, 5, 10, 11] [12]
def f19l1 : Pc := (.seq (.seq f19r10 (.cond (tm 39) .skip (.exit 2))) (.seq (.block 3 (.seq f19r12 (.seq (.seq f19r13 (.cond (tm 60) f19r14 .skip)) (.seq f19r15 (.cond (tm 78) f19r16 .skip))))) f19r11))
theorem f19l1e (C : Cfg) (s : St) : evL C f19l1 s = evL C (.seq (.seq f19r10 (.cond (tm 39) .skip (.exit 2))) (.seq (.block 3 (.seq f19r12 (.seq (.seq f19r13 (.cond (tm 60) f19r14 .skip)) (.seq f19r15 (.cond (tm 78) f19r16 .skip))))) f19r11)) s := rfl
abbrev f19r17 : Pc := .reg [
 Qd 0 88 (.mv (tm 10)),
 Qd 1 4 (.mv (tm 88))] [4] [2, 5, 34]
abbrev f19b : Pc := (.seq f19r0 (.seq f19r1 (.seq (.seq f19r2 (.block 0 (.loop f19l0))) (.seq f19r8 (.seq (.seq f19r9 (.block 2 (.loop f19l1))) (.seq f19r17 .ret))))))
abbrev f19 : Pfn := ⟨2, 89, [.tmp 4], f19b⟩
def f19K : Array (List Nat) := #[[1, 2], [1, 2, 5], [1, 2, 5, 14, 15, 16], [1, 2, 5, 14, 15, 16, 17], [1, 2, 5, 7, 14, 15, 16], [1, 2, 5, 8, 14, 15, 16], [1, 2, 5, 14, 15, 16], [1, 2, 5, 14, 15, 16], [1, 2, 5, 10], [1, 2, 5, 10, 11], [1, 2, 5, 10, 11, 39], [1, 2, 5, 10, 11], [1, 2, 5, 10, 11, 12], [1, 2, 5, 10, 11, 12, 60], [1, 2, 5, 10, 11, 12], [1, 2, 5, 10, 11, 12, 78], [1, 2, 5, 10, 11], [4]]
def f19H : Array (List Nat) := #[[4, 10, 69, 87], [], [], [], [], [], [8], [], [], [], [], [12], [], [], [], [], [12], [2, 5, 34]]
def f19A : Ann := ⟨fun r => f19K.getD r [], fun r => f19H.getD r [], fun r i => ([] : List (Nat × Nat)).contains (r, i)⟩
theorem f19C : compF Go.Proofs.Tryz.prog f19A 19 = some f19 := by kernel_rfl

abbrev f20r0 : Pc := .reg [
 Qd 0 2 (.box 24 2 (tm 0)),
 Qd 1 4 (.nilv 42 1)] [1, 2] [4]
abbrev f20r1 : Pc := .reg [
 Qd 0 13 (.fad 1 (tm 2)),
 Qd 1 14 (.load false 1 (tm 13)),
 Qd 2 15 (.lenL (tm 14)),
 Qd 3 16 (.mv (kz 0))] [1, 14, 15, 16] [2]
abbrev f20r2 : Pc := .reg [
 Qd 0 17 (.bin .lss (tm 16) (tm 15))] [1, 14, 15, 16, 17] []
abbrev f20r3 : Pc := .reg [
 Qd 0 18 (.ixS 3 (tm 14) (tm 16)),
 Qd 1 19 (.load true 3 (tm 18)),
 Qd 2 6 (.alloc 53 [.nl, .nl, (.t (.i .i64 0))]),
 Qn 3 (.store 3 (tm 6) (tm 19))] [1, 6, 14, 15, 16] []
abbrev f20r4 : Pc := .reg [
 Qd 0 20 (.load true 3 (tm 6)),
 Qd 1 21 (.mv (tm 1)),
 Qd 2 22 (.call 19 [(tm 20), (tm 21)]),
 Qd 3 7 (.mv (tm 22))] [1, 6, 7, 14, 15, 16] []
abbrev f20r5 : Pc := .reg [
 Qd 0 8 (.nilv 42 1)] [1, 6, 7, 8, 14, 15, 16] []
abbrev f20r6 : Pc := .reg [
 Qd 0 9 (.mv (kz 0))] [1, 6, 7, 8, 9, 14, 15, 16] []
abbrev f20r7 : Pc := .reg [
 Qd 0 23 (.mv (tm 9)),
 Qd 1 24 (.mv (tm 1)),
 Qd 2 25 (.lenL (tm 24)),
 Qd 3 26 (.bin .lss (tm 23) (tm 25))] [1, 6, 7, 8, 9, 14, 15, 16, 26] []
abbrev f20r9 : Pc := .reg [
 Qd 0 29 (.mv (tm 1)),
 Qd 1 30 (.mv (tm 9)),
 Qd 2 31 (.ixS 1 (tm 29) (tm 30)),
 Qd 3 32 (.load false 1 (tm 31)),
 Qd 4 10 (.mv (tm 32))] [1, 6, 7, 8, 9, 10, 14, 15, 16] []
abbrev f20r10 : Pc := .reg [
 Qd 0 33 (.mv (tm 7)),
 Qd 1 34 (.lenL (tm 33)),
 Qd 2 35 (.mv (kz 0))] [1, 6, 7, 8, 9, 10, 14, 15, 16, 33, 34, 35] []
abbrev f20r11 : Pc := .reg [
 Qd 0 36 (.bin .lss (tm 35) (tm 34))] [1, 6, 7, 8, 9, 10, 14, 15, 16, 33, 34, 35, 36] []
abbrev f20r12 : Pc := .reg [
 Qd 0 37 (.ixS 4 (tm 33) (tm 35)),
 Qd 1 38 (.load true 4 (tm 37)),
 Qd 2 12 (.alloc 82 [(.t (.i .i64 0)), (.t (.i .i64 0)), (.t (.i .i64 0)), (.t (.i .i64 0))]),
 Qn 3 (.store 4 (tm 12) (tm 38))] [1, 6, 7, 8, 9, 10, 12, 14, 15, 16, 33, 34, 35] []
abbrev f20r13 : Pc := .reg [
 Qd 0 39 (.fad 0 (tm 12)),
 Qd 1 40 (.load false 1 (tm 39)),
 Qd 2 41 (.mv (tm 9)),
 Qd 3 42 (.bin .eql (tm 40) (tm 41))] [1, 6, 7, 8, 9, 10, 12, 14, 15, 16, 33, 34, 35, 42] []
abbrev f20r14 : Pc := .reg [
 Qd 0 43 (.mv (tm 10)),
 Qd 1 44 (.fad 1 (tm 6)),
 Qd 2 45 (.load false 1 (tm 44)),
 Qd 3 46 (.fad 2 (tm 12)),
 Qd 4 47 (.load false 1 (tm 46)),
 Qd 5 48 (.ixS 2 (tm 45) (tm 47)),
 Qd 6 49 (.load true 2 (tm 48)),
 Qd 7 50 (.mv (tm 1)),
 Qd 8 51 (.mv (tm 9)),
 Qd 9 52 (.ixS 1 (tm 50) (tm 51)),
 Qd 10 53 (.load false 1 (tm 52)),
 Qd 11 54 (.callq 49 [(tm 49), (tm 53)]),
 Qd 12 55 (.fad 3 (tm 12)),
 Qd 13 56 (.load false 1 (tm 55)),
 Qd 14 57 (.callq 48 [(tm 54), (tm 56)]),
 Qd 15 58 (.callq 47 [(tm 43), (tm 57)]),
 Qd 16 10 (.mv (tm 58))] [1, 6, 7, 8, 9, 10, 14, 15, 16, 33, 34, 35] [12]
abbrev f20r15 : Pc := .reg [
 Qd 0 59 (.bin .add (tm 35) (kz 1)),
 Qd 1 35 (.mv (tm 59))] [1, 6, 7, 8, 9, 10, 14, 15, 16, 33, 34, 35] [12]
def f20l0 : Pc := (.seq f20r11 (.seq (.cond (tm 36) .skip (.exit 4)) (.seq (.block 5 (.seq f20r12 (.seq f20r13 (.cond (tm 42) f20r14 .skip)))) f20r15)))
theorem f20l0e (C : Cfg) (s : St) : evL C f20l0 s = evL C (.seq f20r11 (.seq (.cond (tm 36) .skip (.exit 4)) (.seq (.block 5 (.seq f20r12 (.seq f20r13 (.cond (tm 42) f20r14 .skip)))) f20r15))) s := rfl
abbrev f20r16 : Pc := .reg [
 Qd 0 60 (.mv (tm 8)),
 Qd 1 61 (.mv (tm 10)),
 Qd 2 62 (.bslT 1 [(tm 61)]),
 Qd 3 63 (.app 42 1 24 (tm 60) (tm 62)),
 Qd 4 8 (.mv (tm 63))] [1, 6, 7, 8, 9, 14, 15, 16] []
abbrev f20r8 : Pc := .reg [
 Qd 0 27 (.mv (tm 9)),
 Qd 1 28 (.bin .add (tm 27) (kz 1)),
 Qd 2 9 (.mv (tm 28))] [1, 6, 7, 8, 9, 14, 15, 16] []
def f20l1 : Pc := (.seq (.seq f20r7 (.cond (tm 26) .skip (.exit 2))) (.seq (.block 3 (.seq f20r9 (.seq (.seq f20r10 (.block 4 (.loop f20l0))) f20r16))) f20r8))
theorem f20l1e (C : Cfg) (s : St) : evL C f20l1 s = evL C (.seq (.seq f20r7 (.cond (tm 26) .skip (.exit 2))) (.seq (.block 3 (.seq f20r9 (.seq (.seq f20r10 (.block 4 (.loop f20l0))) f20r16))) f20r8)) s := rfl
abbrev f20r17 : Pc := .reg [
 Qd 0 64 (.mv (tm 8)),
 Qd 1 1 (.mv (tm 64))] [1, 14, 15, 16] [6]
abbrev f20r18 : Pc := .reg [
 Qd 0 65 (.bin .add (tm 16) (kz 1)),
 Qd 1 16 (.mv (tm 65))] [1, 14, 15, 16] []
def f20l2 : Pc := (.seq f20r2 (.seq (.cond (tm 17) .skip (.exit 0)) (.seq (.block 1 (.seq f20r3 (.seq f20r4 (.seq f20r5 (.seq (.seq f20r6 (.block 2 (.loop f20l1))) f20r17))))) f20r18)))
theorem f20l2e (C : Cfg) (s : St) : evL C f20l2 s = evL C (.seq f20r2 (.seq (.cond (tm 17) .skip (.exit 0)) (.seq (.block 1 (.seq f20r3 (.seq f20r4 (.seq f20r5 (.seq (.seq f20r6 (.block 2 (.loop f20l1))) f20r17))))) f20r18))) s := rfl
abbrev f20r19 : Pc := .reg [
 Qd 0 66 (.mv (tm 1)),
 Qd 1 4 (.mv (tm 66))] [4] []
abbrev f20b : Pc := (.seq f20r0 (.seq (.seq f20r1 (.block 0 (.loop f20l2))) (.seq f20r19 .ret)))
abbrev f20 : Pfn := ⟨2, 67, [.tmp 4], f20b⟩
def f20K : Array (List Nat) := #[[1, 2], [1, 14, 15, 16], [1, 14, 15, 16, 17], [1, 6, 14, 15, 16], [1, 6, 7, 14, 15, 16], [1, 6, 7, 8, 14, 15, 16], [1, 6, 7, 8, 9, 14, 15, 16], [1, 6, 7, 8, 9, 14, 15, 16, 26], [1, 6, 7, 8, 9, 14, 15, 16], [1, 6, 7, 8, 9, 10, 14, 15, 16], [1, 6, 7, 8, 9, 10, 14, 15, 16, 33, 34, 35], [1, 6, 7, 8, 9, 10, 14, 15, 16, 33, 34, 35, 36], [1, 6, 7, 8, 9, 10, 12, 14, 15, 16, 33, 34, 35], [1, 6, 7, 8, 9, 10, 12, 14, 15, 16, 33, 34, 35, 42], [1, 6, 7, 8, 9, 10, 14, 15, 16, 33, 34, 35], [1, 6, 7, 8, 9, 10, 14, 15, 16, 33, 34, 35], [1, 6, 7, 8, 9, 14, 15, 16], [1, 14, 15, 16], [1, 14, 15, 16], [4]]
def f20H : Array (List Nat) := #[[4], [2], [], [], [], [], [], [], [], [], [], [], [], [], [12], [12], [], [6], [], []]
def f20A : Ann := ⟨fun r => f20K.getD r [], fun r => f20H.getD r [], fun r i => ([] : List (Nat × Nat)).contains (r, i)⟩
theorem f20C : compF Go.Proofs.Tryz.prog f20A 20 = some f20 := by kernel_rfl

abbrev f21r0 : Pc := .reg [
 Qd 0 4 (.mv (kz 0))] [0, 1] []
abbrev f21r1 : Pc := .reg [
 Qd 0 14 (.mv (tm 0)),
 Qd 1 15 (.nchk (tm 14)),
 Qd 2 16 (.fad 9 (tm 15)),
 Qd 3 17 (.load false 1 (tm 16)),
 Qd 4 18 (.mv (tm 1)),
 Qd 5 19 (.call 50 [(tm 17), (tm 18)]),
 Qd 6 13 (.mv (tm 19)),
 Qd 7 20 (.ext 0 (tm 13)),
 Qd 8 21 (.ext 1 (tm 13)),
 Qd 9 22 (.ext 2 (tm 13)),
 Qd 10 5 (.mv (tm 20)),
 Qd 11 6 (.mv (tm 21)),
 Qd 12 7 (.mv (tm 22))] [0, 5, 6, 7] []
abbrev f21r2 : Pc := .reg [
 Qd 0 23 (.mv (tm 7)),
 Qd 1 24 (.un .not (tm 23))] [0, 5, 6, 24] []
abbrev f21r3 : Pc := .reg [
 Qd 0 4 (.mv (kz 4))] [4] []
abbrev f21r4 : Pc := .reg [
 Qd 0 25 (.mv (tm 0)),
 Qd 1 26 (.mv (tm 6)),
 Qd 2 27 (.nchk (tm 25)),
 Qd 3 28 (.fad 9 (tm 27)),
 Qn 4 (.store 1 (tm 28) (tm 26))] [0, 5] []
abbrev f21r5 : Pc := .reg [
 Qd 0 30 (.mv (tm 5)),
 Qd 1 31 (.call 51 [(tm 30)]),
 Qd 2 29 (.mv (tm 31)),
 Qd 3 32 (.ext 0 (tm 29)),
 Qd 4 33 (.ext 1 (tm 29)),
 Qd 5 8 (.alloc 44 [(.t (.i .i64 0)), (.t (.i .i64 0)), (.t (.i .i64 0)), (.t (.i .i64 0)), (.t (.i .i64 0)), (.t (.i .i64 0)), (.t (.i .i64 0)), (.t (.i .i64 0)), (.t (.i .i64 0)), (.t (.i .i64 0)), .nl]),
 Qn 6 (.store 11 (tm 8) (tm 32)),
 Qd 7 9 (.mv (tm 33))] [0, 8, 9] []
abbrev f21r6 : Pc := .reg [
 Qd 0 35 (.mv (tm 9)),
 Qd 1 36 (.bin .neq (tm 35) (kz 0)),
 Qd 2 34 (.mv (tm 36))] [0, 8, 34] []
abbrev f21r7 : Pc := .reg [
 Qd 0 38 (.fad 2 (tm 8)),
 Qd 1 39 (.load false 1 (tm 38)),
 Qd 2 40 (.bin .eql (tm 39) (kz 0)),
 Qd 3 37 (.mv (tm 40))] [0, 8, 37] []
abbrev f21r8 : Pc := .reg [
 Qd 0 41 (.mv (tm 0)),
 Qd 1 42 (.load true 11 (tm 8)),
 Qd 2 43 (.call 52 [(tm 41), (tm 42)])] [] []
abbrev f21r9 : Pc := .reg [
 Qd 0 45 (.fad 2 (tm 8)),
 Qd 1 46 (.load false 1 (tm 45)),
 Qd 2 47 (.bin .leq (tm 46) (kz 4)),
 Qd 3 44 (.mv (tm 47))] [0, 8, 44] []
abbrev f21r10 : Pc := .reg [
 Qd 0 49 (.mv (tm 0)),
 Qd 1 50 (.nchk (tm 49)),
 Qd 2 51 (.fad 0 (tm 50)),
 Qd 3 52 (.load true 2 (tm 51)),
 Qd 4 53 (.mv (tm 0)),
 Qd 5 54 (.nchk (tm 53)),
 Qd 6 55 (.fad 2 (tm 54)),
 Qd 7 56 (.load true 2 (tm 55)),
 Qd 8 57 (.fad 2 (tm 8)),
 Qd 9 58 (.load false 1 (tm 57)),
 Qd 10 59 (.mv (tm 0)),
 Qd 11 60 (.fad 2 (tm 8)),
 Qd 12 61 (.load false 1 (tm 60)),
 Qd 13 62 (.nchk (tm 59)),
 Qd 14 63 (.fad 4 (tm 62)),
 Qd 15 64 (.ixA 5 1 (tm 63) (tm 61)),
 Qd 16 65 (.load false 1 (tm 64)),
 Qd 17 66 (.load true 11 (tm 8)),
 Qd 18 67 (.callq 53 [(tm 52), (tm 56), (tm 58), (tm 65), (tm 66)]),
 Qd 19 48 (.mv (tm 67)),
 Qd 20 68 (.ext 0 (tm 48)),
 Qd 21 69 (.ext 1 (tm 48)),
 Qd 22 70 (.ext 2 (tm 48)),
 Qd 23 11 (.alloc 44 [(.t (.i .i64 0)), (.t (.i .i64 0)), (.t (.i .i64 0)), (.t (.i .i64 0)), (.t (.i .i64 0)), (.t (.i .i64 0)), (.t (.i .i64 0)), (.t (.i .i64 0)), (.t (.i .i64 0)), (.t (.i .i64 0)), .nl]),
 Qd 24 10 (.mv (tm 68)),
 Qn 25 (.store 11 (tm 11) (tm 69)),
 Qd 26 12 (.mv (tm 70))] [0, 8, 10, 11, 12] []
abbrev f21r11 : Pc := .reg [
 Qd 0 71 (.mv (tm 0)),
 Qd 1 72 (.fad 2 (tm 8)),
 Qd 2 73 (.load false 1 (tm 72)),
 Qd 3 74 (.mv (tm 10)),
 Qd 4 75 (.nchk (tm 71)),
 Qd 5 76 (.fad 4 (tm 75)),
 Qd 6 77 (.ixA 5 1 (tm 76) (tm 73)),
 Qn 7 (.store 1 (tm 77) (tm 74))] [0, 11, 12] []
abbrev f21r12 : Pc := .reg [
 Qd 0 78 (.mv (tm 12))] [0, 11, 78] []
abbrev f21r13 : Pc := .reg [
 Qd 0 79 (.mv (tm 0)),
 Qd 1 80 (.load true 11 (tm 11)),
 Qd 2 81 (.call 54 [(tm 79), (tm 80)])] [] []
abbrev f21r14 : Pc := .reg [
 Qd 0 4 (.mv (kz 0))] [4] []
abbrev f21b : Pc := (.seq f21r0 (.seq f21r1 (.seq (.seq f21r2 (.cond (tm 24) (.seq f21r3 .ret) .skip)) (.seq f21r4 (.seq f21r5 (.seq (.block 0 (.seq f21r6 (.cond (tm 34) .skip (.seq f21r7 (.cond (tm 37) f21r8 (.seq f21r9 (.cond (tm 44) (.seq f21r10 (.seq f21r11 (.seq f21r12 (.cond (tm 78) f21r13 .skip)))) .skip))))))) (.seq f21r14 .ret)))))))
abbrev f21 : Pfn := ⟨2, 82, [.tmp 4], f21b⟩
def f21K : Array (List Nat) := #[[0, 1], [0, 5, 6, 7], [0, 5, 6, 24], [4], [0, 5], [0, 8, 9], [0, 8, 34], [0, 8, 37], [], [0, 8, 44], [0, 8, 10, 11, 12], [0, 11, 12], [0, 11, 78], [], [4]]
def f21H : Array (List Nat) := #[[], [], [], [], [], [], [], [], [], [], [], [], [], [], []]
def f21A : Ann := ⟨fun r => f21K.getD r [], fun r => f21H.getD r [], fun r i => ([] : List (Nat × Nat)).contains (r, i)⟩
theorem f21C : compF Go.Proofs.Tryz.prog f21A 21 = some f21 := by kernel_rfl

abbrev f22r0 : Pc := .reg [
 Qd 0 4 (.mv kF)] [0, 1] []
abbrev f22r1 : Pc := .reg [
 Qd 0 6 (.mv (tm 0)),
 Qd 1 7 (.lenL (tm 6)),
 Qd 2 8 (.mv (tm 1)),
 Qd 3 9 (.lenL (tm 8)),
 Qd 4 10 (.bin .neq (tm 7) (tm 9))] [0, 1, 10] []
abbrev f22r2 : Pc := .reg [
 Qd 0 4 (.mv kF)] [4] []
abbrev f22r3 : Pc := .reg [
 Qd 0 5 (.mv (kz 0))] [0, 1, 5] []
abbrev f22r4 : Pc := .reg [
 Qd 0 11 (.mv (tm 5)),
 Qd 1 12 (.mv (tm 0)),
 Qd 2 13 (.lenL (tm 12)),
 Qd 3 14 (.bin .lss (tm 11) (tm 13))] [0, 1, 5, 14] []
abbrev f22r6 : Pc := .reg [
 Qd 0 17 (.mv (tm 0)),
 Qd 1 18 (.mv (tm 5)),
 Qd 2 19 (.ixS 1 (tm 17) (tm 18)),
 Qd 3 20 (.load false 1 (tm 19)),
 Qd 4 21 (.mv (tm 1)),
 Qd 5 22 (.mv (tm 5)),
 Qd 6 23 (.ixS 1 (tm 21) (tm 22)),
 Qd 7 24 (.load false 1 (tm 23)),
 Qd 8 25 (.callq 55 [(tm 20), (tm 24)]),
 Qd 9 26 (.un .not (tm 25))] [0, 1, 5, 26] []
abbrev f22r7 : Pc := .reg [
 Qd 0 4 (.mv kF)] [4] []
abbrev f22r5 : Pc := .reg [
 Qd 0 15 (.mv (tm 5)),
 Qd 1 16 (.bin .add (tm 15) (kz 1)),
 Qd 2 5 (.mv (tm 16))] [0, 1, 5] []
def f22l0 : Pc := (.seq (.seq f22r4 (.cond (tm 14) .skip (.exit 0))) (.seq (.block 1 (.seq f22r6 (.cond (tm 26) (.seq f22r7 .ret) .skip))) f22r5))
theorem f22l0e (C : Cfg) (s : St) : evL C f22l0 s = evL C (.seq (.seq f22r4 (.cond (tm 14) .skip (.exit 0))) (.seq (.block 1 (.seq f22r6 (.cond (tm 26) (.seq f22r7 .ret) .skip))) f22r5)) s := rfl
abbrev f22r8 : Pc := .reg [
 Qd 0 4 (.mv kT)] [4] []
abbrev f22b : Pc := (.seq f22r0 (.seq (.seq f22r1 (.cond (tm 10) (.seq f22r2 .ret) .skip)) (.seq (.seq f22r3 (.block 0 (.loop f22l0))) (.seq f22r8 .ret))))
abbrev f22 : Pfn := ⟨2, 27, [.tmp 4], f22b⟩
def f22K : Array (List Nat) := #[[0, 1], [0, 1, 10], [4], [0, 1, 5], [0, 1, 5, 14], [0, 1, 5], [0, 1, 5, 26], [4], [4]]
def f22H : Array (List Nat) := #[[], [], [], [], [], [], [], [], []]
def f22A : Ann := ⟨fun r => f22K.getD r [], fun r => f22H.getD r [], fun r i => ([] : List (Nat × Nat)).contains (r, i)⟩
theorem f22C : compF Go.Proofs.Tryz.prog f22A 22 = some f22 := by kernel_rfl

abbrev f23r0 : Pc := .reg [
 Qd 0 3 (.box 27 2 (tm 0)),
 Qd 1 6 (.alloc 27 [(.t (.i .i64 0)), .nl]),
 Qd 2 7 (.mv (kz 0))] [1, 2, 3, 6] []
abbrev f23r1 : Pc := .reg [
 Qd 0 10 (.load true 2 (tm 3)),
 Qd 1 11 (.mv (tm 1)),
 Qd 2 12 (.mv (tm 2)),
 Qd 3 13 (.call 56 [(tm 10), (tm 11), (tm 12)]),
 Qd 4 14 (.un .not (tm 13)),
 Qd 5 9 (.mv (tm 14))] [1, 2, 3, 6, 9] []
abbrev f23r2 : Pc := .reg [
 Qd 0 15 (.load true 2 (tm 3)),
 Qn 1 (.store 2 (tm 6) (tm 15)),
 Qd 2 7 (.mv (kz 1))] [6, 7] [3]
abbrev f23r3 : Pc := .reg [
 Qd 0 17 (.load true 2 (tm 3)),
 Qd 1 18 (.mv (tm 1)),
 Qd 2 19 (.mv (tm 2)),
 Qd 3 20 (.call 57 [(tm 17), (tm 18), (tm 19)]),
 Qd 4 16 (.mv (tm 20))] [1, 2, 3, 6, 16] []
abbrev f23r4 : Pc := .reg [
 Qd 0 21 (.load true 2 (tm 3)),
 Qn 1 (.store 2 (tm 6) (tm 21)),
 Qd 2 7 (.mv (kz 5))] [6, 7] [3]
abbrev f23r5 : Pc := .reg [
 Qd 0 22 (.fad 1 (tm 3)),
 Qd 1 23 (.load false 1 (tm 22)),
 Qd 2 24 (.mv (tm 1)),
 Qd 3 25 (.ixS 1 (tm 23) (tm 24)),
 Qd 4 26 (.load false 1 (tm 25)),
 Qd 5 27 (.call 58 [(tm 26)]),
 Qd 6 28 (.mv (tm 2)),
 Qd 7 29 (.bslT 1 [(tm 28)]),
 Qd 8 30 (.app 3 1 8 (tm 27) (tm 29)),
 Qd 9 8 (.mv (tm 30))] [1, 3, 6, 8] []
abbrev f23r6 : Pc := .reg [
 Qd 0 31 (.mv (tm 8)),
 Qd 1 32 (.call 59 [(tm 31)])] [1, 3, 6, 8] []
abbrev f23r7 : Pc := .reg [
 Qd 0 33 (.load true 2 (tm 3)),
 Qd 1 34 (.mv (tm 1)),
 Qd 2 35 (.mv (tm 8)),
 Qd 3 36 (.call 60 [(tm 33), (tm 34), (tm 35)]),
 Qn 4 (.store 2 (tm 6) (tm 36)),
 Qd 5 7 (.mv (kz 0))] [6, 7] [3]
abbrev f23b : Pc := (.seq f23r0 (.seq (.block 0 (.seq f23r1 (.cond (tm 9) (.seq f23r2 .ret) (.seq f23r3 (.cond (tm 16) (.seq f23r4 .ret) .skip))))) (.seq f23r5 (.seq f23r6 (.seq f23r7 .ret)))))
abbrev f23 : Pfn := ⟨3, 37, [.cell 6 true 2, .tmp 7], f23b⟩
def f23K : Array (List Nat) := #[[1, 2, 3, 6], [1, 2, 3, 6, 9], [6, 7], [1, 2, 3, 6, 16], [6, 7], [1, 3, 6, 8], [1, 3, 6, 8], [6, 7]]
def f23H : Array (List Nat) := #[[], [], [3], [], [3], [], [], [3]]
def f23A : Ann := ⟨fun r => f23K.getD r [], fun r => f23H.getD r [], fun r i => ([] : List (Nat × Nat)).contains (r, i)⟩
theorem f23C : compF Go.Proofs.Tryz.prog f23A 23 = some f23 := by kernel_rfl

abbrev f24r0 : Pc := .reg [
 Qd 0 3 (.box 27 2 (tm 0)),
 Qd 1 5 (.box 3 1 (tm 2)),
 Qd 2 6 (.alloc 27 [(.t (.i .i64 0)), .nl]),
 Qd 3 7 (.mv (kz 0))] [1, 3, 5, 6] []
abbrev f24r1 : Pc := .reg [
 Qd 0 9 (.load true 2 (tm 3)),
 Qd 1 10 (.mv (tm 1)),
 Qd 2 11 (.load false 1 (tm 5)),
 Qd 3 12 (.call 56 [(tm 9), (tm 10), (tm 11)]),
 Qd 4 13 (.un .not (tm 12)),
 Qd 5 8 (.mv (tm 13))] [1, 3, 5, 6, 8] []
abbrev f24r2 : Pc := .reg [
 Qd 0 14 (.load true 2 (tm 3)),
 Qn 1 (.store 2 (tm 6) (tm 14)),
 Qd 2 7 (.mv (kz 1))] [6, 7] [3]
abbrev f24r3 : Pc := .reg [
 Qd 0 16 (.load true 2 (tm 3)),
 Qd 1 17 (.mv (tm 1)),
 Qd 2 18 (.load false 1 (tm 5)),
 Qd 3 19 (.call 57 [(tm 16), (tm 17), (tm 18)]),
 Qd 4 20 (.un .not (tm 19)),
 Qd 5 15 (.mv (tm 20))] [1, 3, 5, 6, 15] []
abbrev f24r4 : Pc := .reg [
 Qd 0 21 (.load true 2 (tm 3)),
 Qn 1 (.store 2 (tm 6) (tm 21)),
 Qd 2 7 (.mv (kz 4))] [6, 7] [3]
abbrev f24r5 : Pc := .reg [
 Qd 0 23 (.fad 1 (tm 3)),
 Qd 1 24 (.load false 1 (tm 23)),
 Qd 2 25 (.mv (tm 1)),
 Qd 3 26 (.ixS 1 (tm 24) (tm 25)),
 Qd 4 27 (.load false 1 (tm 26)),
 Qd 5 28 (.lenL (tm 27)),
 Qd 6 29 (.bin .eql (tm 28) (kz 1)),
 Qd 7 22 (.mv (tm 29))] [1, 3, 5, 6, 22] []
abbrev f24r6 : Pc := .reg [
 Qd 0 30 (.load true 2 (tm 3)),
 Qn 1 (.store 2 (tm 6) (tm 30)),
 Qd 2 7 (.mv (kz 7))] [6, 7] [3]
abbrev f24r7 : Pc := .reg [
 Qd 0 31 (.loadB true 2 (tm 3)),
 Qd 1 32 (.mv (tm 1)),
 Qd 2 33 (.fad 1 (tm 3)),
 Qd 3 34 (.load false 1 (tm 33)),
 Qd 4 35 (.mv (tm 1)),
 Qd 5 36 (.ixS 1 (tm 34) (tm 35)),
 Qd 6 37 (.load false 1 (tm 36)),
 Qd 7 38 (.callo 58 [(tm 37)]),
 Qd 8 39 (.mkfn 62 [(tm 5)]),
 Qd 9 40 (.callR 61 [(tm 38), (tm 39)]),
 Qd 10 41 (.callR 60 [(tm 31), (tm 32), (tm 40)]),
 Qn 11 (.store 2 (tm 6) (tm 41)),
 Qd 12 7 (.mv (kz 0))] [6, 7] [3]
abbrev f24b : Pc := (.seq f24r0 (.seq (.block 0 (.seq f24r1 (.cond (tm 8) (.seq f24r2 .ret) (.seq f24r3 (.cond (tm 15) (.seq f24r4 .ret) (.seq f24r5 (.cond (tm 22) (.seq f24r6 .ret) .skip))))))) (.seq f24r7 .ret)))
abbrev f24 : Pfn := ⟨3, 42, [.cell 6 true 2, .tmp 7], f24b⟩
def f24K : Array (List Nat) := #[[1, 3, 5, 6], [1, 3, 5, 6, 8], [6, 7], [1, 3, 5, 6, 15], [6, 7], [1, 3, 5, 6, 22], [6, 7], [6, 7]]
def f24H : Array (List Nat) := #[[], [], [3], [], [3], [], [3], [3]]
def f24A : Ann := ⟨fun r => f24K.getD r [], fun r => f24H.getD r [], fun r i => ([(7, 7), (7, 1009), (7, 1010), (7, 0)] : List (Nat × Nat)).contains (r, i)⟩
theorem f24C : compF Go.Proofs.Tryz.prog f24A 24 = some f24 := by kernel_rfl

abbrev f25r0 : Pc := .reg [
 Qd 0 6 (.mv (kz 0))] [0, 1, 2] []
abbrev f25r1 : Pc := .reg [
 Qd 0 10 (.mv (tm 0)),
 Qd 1 11 (.nchk (tm 10)),
 Qd 2 12 (.fad 2 (tm 11)),
 Qd 3 13 (.load true 2 (tm 12)),
 Qd 4 14 (.mv (tm 1)),
 Qd 5 15 (.mv (tm 2)),
 Qd 6 16 (.call 23 [(tm 13), (tm 14), (tm 15)]),
 Qd 7 9 (.mv (tm 16)),
 Qd 8 17 (.ext 0 (tm 9)),
 Qd 9 18 (.ext 1 (tm 9)),
 Qd 10 7 (.alloc 27 [(.t (.i .i64 0)), .nl]),
 Qn 11 (.store 2 (tm 7) (tm 17)),
 Qd 12 8 (.mv (tm 18))] [0, 7, 8] []
abbrev f25r2 : Pc := .reg [
 Qd 0 19 (.mv (tm 0)),
 Qd 1 20 (.load true 2 (tm 7)),
 Qd 2 21 (.nchk (tm 19)),
 Qd 3 22 (.fad 2 (tm 21)),
 Qn 4 (.store 2 (tm 22) (tm 20))] [8] []
abbrev f25r3 : Pc := .reg [
 Qd 0 23 (.mv (tm 8)),
 Qd 1 6 (.mv (tm 23))] [6] []
abbrev f25b : Pc := (.seq f25r0 (.seq f25r1 (.seq f25r2 (.seq f25r3 .ret))))
abbrev f25 : Pfn := ⟨3, 24, [.tmp 6], f25b⟩
def f25K : Array (List Nat) := #[[0, 1, 2], [0, 7, 8], [8], [6]]
def f25H : Array (List Nat) := #[[], [], [], []]
def f25A : Ann := ⟨fun r => f25K.getD r [], fun r => f25H.getD r [], fun r i => ([] : List (Nat × Nat)).contains (r, i)⟩
theorem f25C : compF Go.Proofs.Tryz.prog f25A 25 = some f25 := by kernel_rfl

abbrev f26r0 : Pc := .reg [
 Qd 0 6 (.mv (kz 0))] [0, 1, 2] []
abbrev f26r1 : Pc := .reg [
 Qd 0 10 (.mv (tm 0)),
 Qd 1 11 (.nchk (tm 10)),
 Qd 2 12 (.fad 2 (tm 11)),
 Qd 3 13 (.load true 2 (tm 12)),
 Qd 4 14 (.mv (tm 1)),
 Qd 5 15 (.mv (tm 2)),
 Qd 6 16 (.call 24 [(tm 13), (tm 14), (tm 15)]),
 Qd 7 9 (.mv (tm 16)),
 Qd 8 17 (.ext 0 (tm 9)),
 Qd 9 18 (.ext 1 (tm 9)),
 Qd 10 7 (.alloc 27 [(.t (.i .i64 0)), .nl]),
 Qn 11 (.store 2 (tm 7) (tm 17)),
 Qd 12 8 (.mv (tm 18))] [0, 7, 8] []
abbrev f26r2 : Pc := .reg [
 Qd 0 19 (.mv (tm 0)),
 Qd 1 20 (.load true 2 (tm 7)),
 Qd 2 21 (.nchk (tm 19)),
 Qd 3 22 (.fad 2 (tm 21)),
 Qn 4 (.store 2 (tm 22) (tm 20))] [8] []
abbrev f26r3 : Pc := .reg [
 Qd 0 23 (.mv (tm 8)),
 Qd 1 6 (.mv (tm 23))] [6] []
abbrev f26b : Pc := (.seq f26r0 (.seq f26r1 (.seq f26r2 (.seq f26r3 .ret))))
abbrev f26 : Pfn := ⟨3, 24, [.tmp 6], f26b⟩
def f26K : Array (List Nat) := #[[0, 1, 2], [0, 7, 8], [8], [6]]
def f26H : Array (List Nat) := #[[], [], [], []]
def f26A : Ann := ⟨fun r => f26K.getD r [], fun r => f26H.getD r [], fun r i => ([] : List (Nat × Nat)).contains (r, i)⟩
theorem f26C : compF Go.Proofs.Tryz.prog f26A 26 = some f26 := by kernel_rfl

abbrev f27r0 : Pc := .reg [
 Qd 0 3 (.box 64 3 (tm 1))] [0, 3] []
abbrev f27r1 : Pc := .reg [
 Qd 0 6 (.mv (tm 0)),
 Qd 1 7 (.call 14 [(tm 6)]),
 Qd 2 8 (.lenL (tm 7)),
 Qd 3 4 (.mv (tm 8))] [0, 3, 4] []
abbrev f27r2 : Pc := .reg [
 Qd 0 5 (.mv (kz 0))] [0, 3, 4, 5] []
abbrev f27r3 : Pc := .reg [
 Qd 0 9 (.mv (tm 4)),
 Qd 1 10 (.bin .gtr (tm 9) (kz 0))] [0, 3, 4, 5, 10] []
abbrev f27r4 : Pc := .reg [
 Qd 0 11 (.fad 1 (tm 3)),
 Qd 1 12 (.load false 1 (tm 11)),
 Qd 2 13 (.cvi .i64 (tm 12)),
 Qd 3 14 (.mv (tm 4)),
 Qd 4 15 (.bin .rem (tm 13) (tm 14)),
 Qd 5 5 (.mv (tm 15))] [0, 3, 5] []
abbrev f27r5 : Pc := .reg [
 Qd 0 16 (.fad 0 (tm 3)),
 Qd 1 17 (.load false 1 (tm 16)),
 Qd 2 18 (.bin .rem (tm 17) (.c (.t (.i .u8 6))))] [0, 3, 5, 18] []
abbrev f27r6 : Pc := .reg [
 Qd 0 20 (.bin .eql (tm 18) (.c (.t (.i .u8 0)))),
 Qd 1 19 (.mv (tm 20))] [0, 3, 5, 18, 19] []
abbrev f27r7 : Pc := .reg [
 Qd 0 21 (.mv (tm 0)),
 Qd 1 22 (.call 28 [(tm 21)])] [] []
abbrev f27r8 : Pc := .reg [
 Qd 0 24 (.bin .eql (tm 18) (.c (.t (.i .u8 1)))),
 Qd 1 23 (.mv (tm 24))] [0, 3, 5, 18, 23] []
abbrev f27r9 : Pc := .reg [
 Qd 0 25 (.mv (tm 0)),
 Qd 1 26 (.mv (tm 5)),
 Qd 2 27 (.call 21 [(tm 25), (tm 26)])] [] []
abbrev f27r10 : Pc := .reg [
 Qd 0 29 (.bin .eql (tm 18) (.c (.t (.i .u8 2)))),
 Qd 1 28 (.mv (tm 29))] [0, 3, 5, 18, 28] []
abbrev f27r11 : Pc := .reg [
 Qd 0 30 (.mv (tm 0)),
 Qd 1 31 (.mv (tm 5)),
 Qd 2 32 (.call 29 [(tm 30), (tm 31)])] [] []
abbrev f27r12 : Pc := .reg [
 Qd 0 34 (.bin .eql (tm 18) (.c (.t (.i .u8 3)))),
 Qd 1 33 (.mv (tm 34))] [0, 3, 5, 18, 33] []
abbrev f27r13 : Pc := .reg [
 Qd 0 35 (.mv (tm 0)),
 Qd 1 36 (.mv (tm 5)),
 Qd 2 37 (.call 63 [(tm 35), (tm 36)])] [] []
abbrev f27r14 : Pc := .reg [
 Qd 0 39 (.bin .eql (tm 18) (.c (.t (.i .u8 4)))),
 Qd 1 38 (.mv (tm 39))] [0, 3, 18, 38] []
abbrev f27r15 : Pc := .reg [
 Qd 0 40 (.mv (tm 0)),
 Qd 1 41 (.fad 1 (tm 3)),
 Qd 2 42 (.load false 1 (tm 41)),
 Qd 3 43 (.bin .rem (tm 42) (.c (.t (.i .u8 8)))),
 Qd 4 44 (.cvi .i64 (tm 43)),
 Qd 5 45 (.fad 2 (tm 3)),
 Qd 6 46 (.load false 1 (tm 45)),
 Qd 7 47 (.bin .rem (tm 46) (.c (.t (.i .u8 5)))),
 Qd 8 48 (.cvi .i64 (tm 47)),
 Qd 9 49 (.call 25 [(tm 40), (tm 44), (tm 48)])] [] []
abbrev f27r16 : Pc := .reg [
 Qd 0 51 (.bin .eql (tm 18) (.c (.t (.i .u8 5)))),
 Qd 1 50 (.mv (tm 51))] [0, 3, 50] []
abbrev f27r17 : Pc := .reg [
 Qd 0 52 (.mv (tm 0)),
 Qd 1 53 (.fad 1 (tm 3)),
 Qd 2 54 (.load false 1 (tm 53)),
 Qd 3 55 (.bin .rem (tm 54) (.c (.t (.i .u8 8)))),
 Qd 4 56 (.cvi .i64 (tm 55)),
 Qd 5 57 (.fad 2 (tm 3)),
 Qd 6 58 (.load false 1 (tm 57)),
 Qd 7 59 (.bin .rem (tm 58) (.c (.t (.i .u8 5)))),
 Qd 8 60 (.cvi .i64 (tm 59)),
 Qd 9 61 (.call 26 [(tm 52), (tm 56), (tm 60)])] [] []
abbrev f27b : Pc := (.seq f27r0 (.seq f27r1 (.seq f27r2 (.seq (.seq f27r3 (.cond (tm 10) f27r4 .skip)) (.seq f27r5 (.block 0 (.seq f27r6 (.cond (tm 19) f27r7 (.seq f27r8 (.cond (tm 23) f27r9 (.seq f27r10 (.cond (tm 28) f27r11 (.seq f27r12 (.cond (tm 33) f27r13 (.seq f27r14 (.cond (tm 38) f27r15 (.seq f27r16 (.cond (tm 50) f27r17 .skip))))))))))))))))))
abbrev f27 : Pfn := ⟨2, 62, [], f27b⟩
def f27K : Array (List Nat) := #[[0, 3], [0, 3, 4], [0, 3, 4, 5], [0, 3, 4, 5, 10], [0, 3, 5], [0, 3, 5, 18], [0, 3, 5, 18, 19], [], [0, 3, 5, 18, 23], [], [0, 3, 5, 18, 28], [], [0, 3, 5, 18, 33], [], [0, 3, 18, 38], [], [0, 3, 50], []]
def f27H : Array (List Nat) := #[[], [], [], [], [], [], [], [], [], [], [], [], [], [], [], [], [], []]
def f27A : Ann := ⟨fun r => f27K.getD r [], fun r => f27H.getD r [], fun r i => ([] : List (Nat × Nat)).contains (r, i)⟩
theorem f27C : compF Go.Proofs.Tryz.prog f27A 27 = some f27 := by kernel_rfl

abbrev f28r0 : Pc := .reg [
 Qd 0 6 (.mv (tm 0)),
 Qd 1 7 (.nchk (tm 6)),
 Qd 2 8 (.fad 11 (tm 7)),
 Qd 3 9 (.load false 1 (tm 8)),
 Qd 4 10 (.mv (tm 0)),
 Qd 5 11 (.nchk (tm 10)),
 Qd 6 12 (.fad 0 (tm 11)),
 Qd 7 13 (.fad 1 (tm 12)),
 Qd 8 14 (.load false 1 (tm 13)),
 Qd 9 15 (.lenL (tm 14)),
 Qd 10 16 (.bin .geq (tm 9) (tm 15))] [0, 16] []
abbrev f28r1 : Pc := .reg [
 Qd 0 17 (.mv (tm 0)),
 Qd 1 18 (.nchk (tm 17)),
 Qd 2 19 (.fad 12 (tm 18)),
 Qd 3 20 (.load false 1 (tm 19)),
 Qd 4 21 (.lenL (tm 20)),
 Qd 5 22 (.mv (kz 0))] [0, 20, 21, 22] []
abbrev f28r2 : Pc := .reg [
 Qd 0 23 (.bin .lss (tm 22) (tm 21))] [0, 20, 21, 22, 23] []
abbrev f28r3 : Pc := .reg [
 Qd 0 24 (.mv (tm 22)),
 Qd 1 25 (.ixS 4 (tm 20) (tm 22)),
 Qd 2 26 (.load true 4 (tm 25)),
 Qd 3 3 (.alloc 110 [(.t (.i .i64 0)), (.t (.i .i64 0)), (.t (.i .i64 0)), (.t (.i .i64 0))]),
 Qd 4 2 (.mv (tm 24)),
 Qn 5 (.store 4 (tm 3) (tm 26))] [0, 2, 3, 20, 21, 22] []
abbrev f28r4 : Pc := .reg [
 Qd 0 27 (.mv (tm 0)),
 Qd 1 28 (.nchk (tm 27)),
 Qd 2 29 (.fad 14 (tm 28)),
 Qd 3 30 (.load false 1 (tm 29)),
 Qd 4 31 (.mv (tm 2)),
 Qd 5 32 (.ixS 1 (tm 30) (tm 31)),
 Qd 6 33 (.load false 1 (tm 32))] [0, 3, 20, 21, 22, 33] []
abbrev f28r5 : Pc := .reg [
 Qd 0 35 (.mv (tm 0)),
 Qd 1 36 (.nchk (tm 35)),
 Qd 2 37 (.fad 2 (tm 36)),
 Qd 3 38 (.load true 2 (tm 37)),
 Qd 4 39 (.fad 2 (tm 3)),
 Qd 5 40 (.load false 1 (tm 39)),
 Qd 6 41 (.fad 0 (tm 3)),
 Qd 7 42 (.load false 1 (tm 41)),
 Qd 8 43 (.fad 1 (tm 3)),
 Qd 9 44 (.load false 1 (tm 43)),
 Qd 10 45 (.bin .add (tm 42) (tm 44)),
 Qd 11 46 (.callq 64 [(tm 38), (tm 40), (tm 45)]),
 Qd 12 34 (.mv (tm 46)),
 Qd 13 47 (.ext 0 (tm 34)),
 Qd 14 48 (.ext 1 (tm 34)),
 Qd 15 4 (.mv (tm 47)),
 Qd 16 5 (.mv (tm 48))] [0, 3, 4, 20, 21, 22] []
abbrev f28r6 : Pc := .reg [
 Qd 0 49 (.mv (tm 0)),
 Qd 1 50 (.mv (tm 4)),
 Qd 2 51 (.mv (tm 0)),
 Qd 3 52 (.nchk (tm 51)),
 Qd 4 53 (.fad 11 (tm 52)),
 Qd 5 54 (.load false 1 (tm 53)),
 Qd 6 55 (.fad 0 (tm 3)),
 Qd 7 56 (.load false 1 (tm 55)),
 Qd 8 57 (.fad 1 (tm 3)),
 Qd 9 58 (.load false 1 (tm 57)),
 Qd 10 59 (.fad 2 (tm 3)),
 Qd 11 60 (.load false 1 (tm 59)),
 Qd 12 61 (.mv (tm 0)),
 Qd 13 62 (.nchk (tm 61)),
 Qd 14 63 (.fad 2 (tm 62)),
 Qd 15 64 (.fad 0 (tm 63)),
 Qd 16 65 (.load false 1 (tm 64)),
 Qd 17 66 (.mv (tm 0)),
 Qd 18 67 (.nchk (tm 66)),
 Qd 19 68 (.fad 10 (tm 67)),
 Qd 20 69 (.load false 1 (tm 68)),
 Qd 21 70 (.fad 0 (tm 3)),
 Qd 22 71 (.load false 1 (tm 70)),
 Qd 23 72 (.ixS 1 (tm 69) (tm 71)),
 Qd 24 73 (.load false 1 (tm 72)),
 Qd 25 74 (.build [(.t (.i .i64 0)), (.t (.i .i64 0)), (.t (.i .i64 0)), (.t (.i .i64 0)), (.t (.i .i64 0)), (.t (.i .i64 0)), (.t (.i .i64 0)), (.t (.i .i64 0)), (.t (.i .i64 0)), (.t (.i .i64 0)), .nl] [(0, 1, (kz 1)), (2, 1, (tm 50)), (4, 1, (kz 1)), (5, 1, (tm 54)), (6, 1, (tm 56)), (7, 1, (tm 58)), (8, 1, (tm 60)), (9, 1, (tm 65)), (10, 1, (tm 73))]),
 Qd 26 75 (.call 54 [(tm 49), (tm 74)])] [0, 20, 21, 22] []
abbrev f28r7 : Pc := .reg [
 Qd 0 76 (.bin .add (tm 22) (kz 1)),
 Qd 1 22 (.mv (tm 76))] [0, 20, 21, 22] []
def f28l0 : Pc := (.seq f28r2 (.seq (.cond (tm 23) .skip (.exit 0)) (.seq (.block 1 (.seq f28r3 (.seq (.seq f28r4 (.cond (tm 33) (.exit 1) .skip)) (.seq f28r5 f28r6)))) f28r7)))
theorem f28l0e (C : Cfg) (s : St) : evL C f28l0 s = evL C (.seq f28r2 (.seq (.cond (tm 23) .skip (.exit 0)) (.seq (.block 1 (.seq f28r3 (.seq (.seq f28r4 (.cond (tm 33) (.exit 1) .skip)) (.seq f28r5 f28r6)))) f28r7))) s := rfl
abbrev f28b : Pc := (.seq (.seq f28r0 (.cond (tm 16) .ret .skip)) (.seq f28r1 (.block 0 (.loop f28l0))))
abbrev f28 : Pfn := ⟨1, 77, [], f28b⟩
def f28K : Array (List Nat) := #[[0, 16], [0, 20, 21, 22], [0, 20, 21, 22, 23], [0, 2, 3, 20, 21, 22], [0, 3, 20, 21, 22, 33], [0, 3, 4, 20, 21, 22], [0, 20, 21, 22], [0, 20, 21, 22]]
def f28H : Array (List Nat) := #[[], [], [], [], [], [], [], []]
def f28A : Ann := ⟨fun r => f28K.getD r [], fun r => f28H.getD r [], fun r i => ([(6, 2026)] : List (Nat × Nat)).contains (r, i)⟩
theorem f28C : compF Go.Proofs.Tryz.prog f28A 28 = some f28 := by kernel_rfl

abbrev f29r0 : Pc := .reg [
 Qd 0 4 (.mv (kz 0))] [0, 1] []
abbrev f29r1 : Pc := .reg [
 Qd 0 9 (.mv (tm 0)),
 Qd 1 10 (.nchk (tm 9)),
 Qd 2 11 (.fad 9 (tm 10)),
 Qd 3 12 (.load false 1 (tm 11)),
 Qd 4 13 (.mv (tm 1)),
 Qd 5 14 (.call 50 [(tm 12), (tm 13)]),
 Qd 6 8 (.mv (tm 14)),
 Qd 7 15 (.ext 0 (tm 8)),
 Qd 8 16 (.ext 1 (tm 8)),
 Qd 9 17 (.ext 2 (tm 8)),
 Qd 10 5 (.mv (tm 15)),
 Qd 11 6 (.mv (tm 16)),
 Qd 12 7 (.mv (tm 17))] [0, 6, 7] []
abbrev f29r2 : Pc := .reg [
 Qd 0 18 (.mv (tm 0)),
 Qd 1 19 (.mv (tm 6)),
 Qd 2 20 (.nchk (tm 18)),
 Qd 3 21 (.fad 9 (tm 20)),
 Qn 4 (.store 1 (tm 21) (tm 19))] [7] []
abbrev f29r3 : Pc := .reg [
 Qd 0 22 (.mv (tm 7)),
 Qd 1 23 (.un .not (tm 22))] [23] []
abbrev f29r4 : Pc := .reg [
 Qd 0 4 (.mv (kz 4))] [4] []
abbrev f29r5 : Pc := .reg [
 Qd 0 4 (.mv (kz 0))] [4] []
abbrev f29b : Pc := (.seq f29r0 (.seq f29r1 (.seq f29r2 (.seq (.seq f29r3 (.cond (tm 23) (.seq f29r4 .ret) .skip)) (.seq f29r5 .ret)))))
abbrev f29 : Pfn := ⟨2, 24, [.tmp 4], f29b⟩
def f29K : Array (List Nat) := #[[0, 1], [0, 6, 7], [7], [23], [4], [4]]
def f29H : Array (List Nat) := #[[], [], [], [], [], []]
def f29A : Ann := ⟨fun r => f29K.getD r [], fun r => f29H.getD r [], fun r i => ([] : List (Nat × Nat)).contains (r, i)⟩
theorem f29C : compF Go.Proofs.Tryz.prog f29A 29 = some f29 := by kernel_rfl

abbrev f30r0 : Pc := .reg [
 Qd 0 1 (.box 24 2 (tm 0)),
 Qd 1 2 (.mv kF)] [1] []
abbrev f30r1 : Pc := .reg [
 Qd 0 3 (.fad 0 (tm 1)),
 Qd 1 4 (.load false 1 (tm 3)),
 Qd 2 5 (.bin .geq (tm 4) (kz 1)),
 Qd 3 6 (.mv (tm 5)),
 Gt 4 7 6 (.fad 0 (tm 1)),
 Gt 5 8 6 (.load false 1 (tm 7)),
 Gt 6 9 6 (.bin .leq (tm 8) (kz 8)),
 Qd 7 10 (.pick (tm 6) (tm 9) kF),
 Qd 8 11 (.mv (tm 10)),
 Gt 9 12 11 (.fad 1 (tm 1)),
 Gt 10 13 11 (.load false 1 (tm 12)),
 Gt 11 14 11 (.lenL (tm 13)),
 Gt 12 15 11 (.bin .geq (tm 14) (kz 1)),
 Qd 13 16 (.pick (tm 11) (tm 15) kF),
 Qd 14 17 (.mv (tm 16)),
 Gt 15 18 17 (.fad 1 (tm 1)),
 Gt 16 19 17 (.load false 1 (tm 18)),
 Gt 17 20 17 (.lenL (tm 19)),
 Gt 18 21 17 (.bin .leq (tm 20) (kz 4)),
 Qd 19 22 (.pick (tm 17) (tm 21) kF),
 Qd 20 23 (.mv (tm 22)),
 Gt 21 24 23 (.fad 1 (tm 1)),
 Gt 22 25 23 (.load false 1 (tm 24)),
 Gt 23 26 23 (.mkfn 65 [(tm 1)]),
 Gt 24 27 23 (.call 33 [(tm 25), (tm 26)]),
 Gt 25 28 23 (.un .not (tm 27)),
 Qd 26 29 (.pick (tm 23) (tm 28) kF),
 Qd 27 2 (.mv (tm 29))] [2] [1]
abbrev f30b : Pc := (.seq f30r0 (.seq f30r1 .ret))
abbrev f30 : Pfn := ⟨1, 30, [.tmp 2], f30b⟩
def f30K : Array (List Nat) := #[[1], [2]]
def f30H : Array (List Nat) := #[[], [1]]
def f30A : Ann := ⟨fun r => f30K.getD r [], fun r => f30H.getD r [], fun r i => ([] : List (Nat × Nat)).contains (r, i)⟩
theorem f30C : compF Go.Proofs.Tryz.prog f30A 30 = some f30 := by kernel_rfl

abbrev f31r0 : Pc := .reg [
 Qd 0 2 (.box 24 2 (tm 0)),
 Qd 1 4 (.mv kF)] [1, 2] []
abbrev f31r1 : Pc := .reg [
 Qd 0 5 (.mv (tm 1)),
 Qd 1 6 (.lenL (tm 5)),
 Qd 2 7 (.bin .geq (tm 6) (kz 1)),
 Qd 3 8 (.mv (tm 7)),
 Gt 4 9 8 (.mv (tm 1)),
 Gt 5 10 8 (.lenL (tm 9)),
 Gt 6 11 8 (.bin .leq (tm 10) (kz 16)),
 Qd 7 12 (.pick (tm 8) (tm 11) kF),
 Qd 8 13 (.mv (tm 12)),
 Gt 9 14 13 (.mv (tm 1)),
 Gt 10 15 13 (.mkfn 68 [(tm 2)]),
 Gt 11 16 13 (.call 67 [(tm 14), (tm 15)]),
 Gt 12 17 13 (.un .not (tm 16)),
 Qd 13 18 (.pick (tm 13) (tm 17) kF),
 Qd 14 4 (.mv (tm 18))] [4] [2]
abbrev f31b : Pc := (.seq f31r0 (.seq f31r1 .ret))
abbrev f31 : Pfn := ⟨2, 19, [.tmp 4], f31b⟩
def f31K : Array (List Nat) := #[[1, 2], [4]]
def f31H : Array (List Nat) := #[[], [2]]
def f31A : Ann := ⟨fun r => f31K.getD r [], fun r => f31H.getD r [], fun r i => ([] : List (Nat × Nat)).contains (r, i)⟩
theorem f31C : compF Go.Proofs.Tryz.prog f31A 31 = some f31 := by kernel_rfl

abbrev f32r0 : Pc := .reg [
 Qd 0 1 (.box 27 2 (tm 0)),
 Qd 1 2 (.mv kF)] [1] []
abbrev f32r1 : Pc := .reg [
 Qd 0 8 (.fad 1 (tm 1)),
 Qd 1 9 (.load false 1 (tm 8)),
 Qd 2 10 (.lenL (tm 9)),
 Qd 3 11 (.mv (kz 0))] [1, 9, 10, 11] []
abbrev f32r2 : Pc := .reg [
 Qd 0 12 (.bin .lss (tm 11) (tm 10))] [1, 9, 10, 11, 12] []
abbrev f32r3 : Pc := .reg [
 Qd 0 13 (.ixS 1 (tm 9) (tm 11)),
 Qd 1 14 (.load false 1 (tm 13)),
 Qd 2 4 (.mv (tm 14))] [1, 4, 9, 10, 11] []
abbrev f32r4 : Pc := .reg [
 Qd 0 5 (.mv (kz 0))] [1, 4, 5, 9, 10, 11] []
abbrev f32r5 : Pc := .reg [
 Qd 0 15 (.mv (tm 4)),
 Qd 1 16 (.lenL (tm 15)),
 Qd 2 17 (.mv (kz 0))] [1, 4, 5, 9, 10, 11, 15, 16, 17] []
abbrev f32r6 : Pc := .reg [
 Qd 0 18 (.bin .lss (tm 17) (tm 16))] [1, 4, 5, 9, 10, 11, 15, 16, 17, 18] []
abbrev f32r7 : Pc := .reg [
 Qd 0 19 (.ixS 1 (tm 15) (tm 17)),
 Qd 1 20 (.load false 1 (tm 19)),
 Qd 2 7 (.mv (tm 20))] [1, 4, 5, 7, 9, 10, 11, 15, 16, 17] []
abbrev f32r8 : Pc := .reg [
 Qd 0 21 (.mv (tm 7)),
 Qd 1 22 (.mv (tm 5)),
 Qd 2 23 (.bin .leq (tm 21) (tm 22)),
 Qd 3 24 (.mv (tm 23)),
 Gf 4 25 24 (.mv (tm 7)),
 Gf 5 26 24 (.bin .gtr (tm 25) (kz 4)),
 Qd 6 27 (.pick (tm 24) kT (tm 26))] [1, 4, 7, 9, 10, 11, 15, 16, 17, 27] []
abbrev f32r9 : Pc := .reg [
 Qd 0 2 (.mv kF)] [2] [1]
abbrev f32r10 : Pc := .reg [
 Qd 0 28 (.mv (tm 7)),
 Qd 1 5 (.mv (tm 28))] [1, 4, 5, 9, 10, 11, 15, 16, 17] []
abbrev f32r11 : Pc := .reg [
 Qd 0 29 (.bin .add (tm 17) (kz 1)),
 Qd 1 17 (.mv (tm 29))] [1, 4, 5, 9, 10, 11, 15, 16, 17] []
def f32l0 : Pc := (.seq f32r6 (.seq (.cond (tm 18) .skip (.exit 2)) (.seq (.block 3 (.seq f32r7 (.seq (.seq f32r8 (.cond (tm 27) (.seq f32r9 .ret) .skip)) f32r10))) f32r11)))
theorem f32l0e (C : Cfg) (s : St) : evL C f32l0 s = evL C (.seq f32r6 (.seq (.cond (tm 18) .skip (.exit 2)) (.seq (.block 3 (.seq f32r7 (.seq (.seq f32r8 (.cond (tm 27) (.seq f32r9 .ret) .skip)) f32r10))) f32r11))) s := rfl
abbrev f32r12 : Pc := .reg [
 Qd 0 30 (.mv (tm 4)),
 Qd 1 31 (.lenL (tm 30)),
 Qd 2 32 (.bin .eql (tm 31) (kz 0))] [1, 9, 10, 11, 32] []
abbrev f32r13 : Pc := .reg [
 Qd 0 2 (.mv kF)] [2] [1]
abbrev f32r14 : Pc := .reg [
 Qd 0 33 (.bin .add (tm 11) (kz 1)),
 Qd 1 11 (.mv (tm 33))] [1, 9, 10, 11] []
def f32l1 : Pc := (.seq f32r2 (.seq (.cond (tm 12) .skip (.exit 0)) (.seq (.block 1 (.seq f32r3 (.seq f32r4 (.seq (.seq f32r5 (.block 2 (.loop f32l0))) (.seq f32r12 (.cond (tm 32) (.seq f32r13 .ret) .skip)))))) f32r14)))
theorem f32l1e (C : Cfg) (s : St) : evL C f32l1 s = evL C (.seq f32r2 (.seq (.cond (tm 12) .skip (.exit 0)) (.seq (.block 1 (.seq f32r3 (.seq f32r4 (.seq (.seq f32r5 (.block 2 (.loop f32l0))) (.seq f32r12 (.cond (tm 32) (.seq f32r13 .ret) .skip)))))) f32r14))) s := rfl
abbrev f32r15 : Pc := .reg [
 Qd 0 34 (.fad 0 (tm 1)),
 Qd 1 35 (.load false 1 (tm 34)),
 Qd 2 36 (.bin .geq (tm 35) (kz 0)),
 Qd 3 37 (.mv (tm 36)),
 Gt 4 38 37 (.fad 0 (tm 1)),
 Gt 5 39 37 (.load false 1 (tm 38)),
 Gt 6 40 37 (.bin .leq (tm 39) (kz 2147483647)),
 Qd 7 41 (.pick (tm 37) (tm 40) kF),
 Qd 8 42 (.mv (tm 41)),
 Gt 9 43 42 (.fad 1 (tm 1)),
 Gt 10 44 42 (.load false 1 (tm 43)),
 Gt 11 45 42 (.lenL (tm 44)),
 Gt 12 46 42 (.bin .leq (tm 45) (kz 8)),
 Qd 13 47 (.pick (tm 42) (tm 46) kF),
 Qd 14 2 (.mv (tm 47))] [2] [1]
abbrev f32b : Pc := (.seq f32r0 (.seq (.seq f32r1 (.block 0 (.loop f32l1))) (.seq f32r15 .ret)))
abbrev f32 : Pfn := ⟨1, 48, [.tmp 2], f32b⟩
def f32K : Array (List Nat) := #[[1], [1, 9, 10, 11], [1, 9, 10, 11, 12], [1, 4, 9, 10, 11], [1, 4, 5, 9, 10, 11], [1, 4, 5, 9, 10, 11, 15, 16, 17], [1, 4, 5, 9, 10, 11, 15, 16, 17, 18], [1, 4, 5, 7, 9, 10, 11, 15, 16, 17], [1, 4, 7, 9, 10, 11, 15, 16, 17, 27], [2], [1, 4, 5, 9, 10, 11, 15, 16, 17], [1, 4, 5, 9, 10, 11, 15, 16, 17], [1, 9, 10, 11, 32], [2], [1, 9, 10, 11], [2]]
def f32H : Array (List Nat) := #[[], [], [], [], [], [], [], [], [], [1], [], [], [], [1], [], [1]]
def f32A : Ann := ⟨fun r => f32K.getD r [], fun r => f32H.getD r [], fun r i => ([] : List (Nat × Nat)).contains (r, i)⟩
theorem f32C : compF Go.Proofs.Tryz.prog f32A 32 = some f32 := by kernel_rfl

abbrev f33r0 : Pc := .reg [
 Qd 0 4 (.mv kF)] [0, 1] []
abbrev f33r1 : Pc := .reg [
 Qd 0 5 (.mv (tm 0)),
 Qd 1 6 (.mv (tm 1)),
 Qd 2 7 (.call 72 [(tm 5), (tm 6)]),
 Qd 3 8 (.bin .geq (tm 7) (kz 0)),
 Qd 4 4 (.mv (tm 8))] [4] []
abbrev f33b : Pc := (.seq f33r0 (.seq f33r1 .ret))
abbrev f33 : Pfn := ⟨2, 9, [.tmp 4], f33b⟩
def f33K : Array (List Nat) := #[[0, 1], [4]]
def f33H : Array (List Nat) := #[[], []]
def f33A : Ann := ⟨fun r => f33K.getD r [], fun r => f33H.getD r [], fun r i => ([] : List (Nat × Nat)).contains (r, i)⟩
theorem f33C : compF Go.Proofs.Tryz.prog f33A 33 = some f33 := by kernel_rfl

abbrev f34r0 : Pc := .reg [
 Qd 0 2 (.box 53 3 (tm 0)),
 Qd 1 3 (.mv kF)] [1, 2] []
abbrev f34r1 : Pc := .reg [
 Qd 0 4 (.fad 1 (tm 2)),
 Qd 1 5 (.load false 1 (tm 4)),
 Qd 2 6 (.lenL (tm 5)),
 Qd 3 7 (.fad 1 (tm 1)),
 Qd 4 8 (.load false 1 (tm 7)),
 Qd 5 9 (.lenL (tm 8)),
 Qd 6 10 (.bin .gtr (tm 6) (tm 9)),
 Qd 7 3 (.mv (tm 10))] [3] [2]
abbrev f34b : Pc := (.seq f34r0 (.seq f34r1 .ret))
abbrev f34 : Pfn := ⟨2, 11, [.tmp 3], f34b⟩
def f34K : Array (List Nat) := #[[1, 2], [3]]
def f34H : Array (List Nat) := #[[], [2]]
def f34A : Ann := ⟨fun r => f34K.getD r [], fun r => f34H.getD r [], fun r i => ([] : List (Nat × Nat)).contains (r, i)⟩
theorem f34C : compF Go.Proofs.Tryz.prog f34A 34 = some f34 := by kernel_rfl

abbrev f35r0 : Pc := .reg [
 Qd 0 2 (.nilv 42 1)] [0] [2, 5, 7]
abbrev f35r1 : Pc := .reg [
 Qd 0 3 (.mv (tm 0)),
 Qd 1 4 (.isnilS false (tm 3))] [0, 4] []
abbrev f35r2 : Pc := .reg [
 Qd 0 2 (.nilv 42 1)] [2] []
abbrev f35r3 : Pc := .reg [
 Qd 0 5 (.bslO 42 1 []),
 Qd 1 6 (.mv (tm 0)),
 Qd 2 7 (.app 42 1 24 (tm 5) (tm 6)),
 Qd 3 2 (.mv (tm 7))] [2] []
abbrev f35b : Pc := (.seq f35r0 (.seq (.seq f35r1 (.cond (tm 4) (.seq f35r2 .ret) .skip)) (.seq f35r3 .ret)))
abbrev f35 : Pfn := ⟨1, 8, [.tmp 2], f35b⟩
def f35K : Array (List Nat) := #[[0], [0, 4], [2], [2]]
def f35H : Array (List Nat) := #[[2, 5, 7], [], [], []]
def f35A : Ann := ⟨fun r => f35K.getD r [], fun r => f35H.getD r [], fun r i => ([(3, 0), (3, 0)] : List (Nat × Nat)).contains (r, i)⟩
theorem f35C : compF Go.Proofs.Tryz.prog f35A 35 = some f35 := by kernel_rfl

abbrev f36r0 : Pc := .reg [
 Qd 0 2 (.mv (tm 0)),
 Qd 1 3 (.nchk (tm 2)),
 Qd 2 4 (.fad 11 (tm 3)),
 Qd 3 5 (.load false 1 (tm 4)),
 Qd 4 6 (.mv (tm 0)),
 Qd 5 7 (.nchk (tm 6)),
 Qd 6 8 (.fad 0 (tm 7)),
 Qd 7 9 (.fad 1 (tm 8)),
 Qd 8 10 (.load false 1 (tm 9)),
 Qd 9 11 (.lenL (tm 10)),
 Qd 10 12 (.bin .geq (tm 5) (tm 11))] [0, 12] []
abbrev f36r1 : Pc := .reg [
 Qd 0 13 (.mv (tm 0)),
 Qd 1 14 (.mv (tm 0)),
 Qd 2 15 (.nchk (tm 14)),
 Qd 3 16 (.fad 0 (tm 15)),
 Qd 4 17 (.fad 1 (tm 16)),
 Qd 5 18 (.load false 1 (tm 17)),
 Qd 6 19 (.mv (tm 0)),
 Qd 7 20 (.nchk (tm 19)),
 Qd 8 21 (.fad 11 (tm 20)),
 Qd 9 22 (.load false 1 (tm 21)),
 Qd 10 23 (.ixS 3 (tm 18) (tm 22)),
 Qd 11 24 (.load true 3 (tm 23)),
 Qd 12 25 (.mv (tm 0)),
 Qd 13 26 (.nchk (tm 25)),
 Qd 14 27 (.fad 10 (tm 26)),
 Qd 15 28 (.load false 1 (tm 27)),
 Qd 16 29 (.callq 73 [(tm 24), (tm 28)]),
 Qd 17 30 (.nchk (tm 13)),
 Qd 18 31 (.fad 12 (tm 30)),
 Qn 19 (.store 1 (tm 31) (tm 29))] [0] []
abbrev f36r2 : Pc := .reg [
 Qd 0 32 (.mv (tm 0)),
 Qd 1 33 (.mv (tm 0)),
 Qd 2 34 (.nchk (tm 33)),
 Qd 3 35 (.fad 12 (tm 34)),
 Qd 4 36 (.load false 1 (tm 35)),
 Qd 5 37 (.lenL (tm 36)),
 Qd 6 38 (.mks 42 1 24 [(.l [])] (tm 37) (tm 37)),
 Qd 7 39 (.nchk (tm 32)),
 Qd 8 40 (.fad 13 (tm 39)),
 Qn 9 (.store 1 (tm 40) (tm 38))] [0] []
abbrev f36r3 : Pc := .reg [
 Qd 0 41 (.mv (tm 0)),
 Qd 1 42 (.mv (tm 0)),
 Qd 2 43 (.nchk (tm 42)),
 Qd 3 44 (.fad 12 (tm 43)),
 Qd 4 45 (.load false 1 (tm 44)),
 Qd 5 46 (.lenL (tm 45)),
 Qd 6 47 (.mks 4 1 1 [(.b false)] (tm 46) (tm 46)),
 Qd 7 48 (.nchk (tm 41)),
 Qd 8 49 (.fad 14 (tm 48)),
 Qn 9 (.store 1 (tm 49) (tm 47))] [0] []
abbrev f36r4 : Pc := .reg [
 Qd 0 50 (.mv (tm 0)),
 Qd 1 51 (.call 28 [(tm 50)])] [] []
abbrev f36b : Pc := (.seq (.seq f36r0 (.cond (tm 12) .ret .skip)) (.seq f36r1 (.seq f36r2 (.seq f36r3 f36r4))))
abbrev f36 : Pfn := ⟨1, 52, [], f36b⟩
def f36K : Array (List Nat) := #[[0, 12], [0], [0], [0], []]
def f36H : Array (List Nat) := #[[], [], [], [], []]
def f36A : Ann := ⟨fun r => f36K.getD r [], fun r => f36H.getD r [], fun r i => ([] : List (Nat × Nat)).contains (r, i)⟩
theorem f36C : compF Go.Proofs.Tryz.prog f36A 36 = some f36 := by kernel_rfl

abbrev f37r0 : Pc := .reg [
 Qd 0 2 (.mv (tm 0)),
 Qd 1 3 (.nchk (tm 2)),
 Qd 2 4 (.fad 11 (tm 3)),
 Qd 3 5 (.load false 1 (tm 4)),
 Qd 4 6 (.mv (tm 0)),
 Qd 5 7 (.nchk (tm 6)),
 Qd 6 8 (.fad 0 (tm 7)),
 Qd 7 9 (.fad 1 (tm 8)),
 Qd 8 10 (.load false 1 (tm 9)),
 Qd 9 11 (.lenL (tm 10)),
 Qd 10 12 (.bin .lss (tm 5) (tm 11)),
 Qd 11 13 (.mv (tm 12)),
 Gt 12 14 13 (.mv (tm 0)),
 Gt 13 15 13 (.nchk (tm 14)),
 Gt 14 16 13 (.fad 14 (tm 15)),
 Gt 15 17 13 (.load false 1 (tm 16)),
 Gt 16 18 13 (.callq 74 [(tm 17), kF]),
 Gt 17 19 13 (.un .not (tm 18)),
 Qd 18 20 (.pick (tm 13) (tm 19) kF)] [0, 20] []
abbrev f37r1 : Pc := .reg [
 Qd 0 21 (.mv (tm 0)),
 Qd 1 22 (.mv (tm 0)),
 Qd 2 23 (.nchk (tm 22)),
 Qd 3 24 (.fad 10 (tm 23)),
 Qd 4 25 (.load false 1 (tm 24)),
 Qd 5 26 (.mv (tm 0)),
 Qd 6 27 (.nchk (tm 26)),
 Qd 7 28 (.fad 12 (tm 27)),
 Qd 8 29 (.load false 1 (tm 28)),
 Qd 9 30 (.mv (tm 0)),
 Qd 10 31 (.nchk (tm 30)),
 Qd 11 32 (.fad 13 (tm 31)),
 Qd 12 33 (.load false 1 (tm 32)),
 Qd 13 34 (.call 75 [(tm 25), (tm 29), (tm 33)]),
 Qd 14 35 (.nchk (tm 21)),
 Qd 15 36 (.fad 10 (tm 35)),
 Qn 16 (.store 1 (tm 36) (tm 34))] [0] []
abbrev f37r2 : Pc := .reg [
 Qd 0 37 (.mv (tm 0)),
 Qd 1 38 (.nchk (tm 37)),
 Qd 2 39 (.fad 11 (tm 38)),
 Qd 3 40 (.load false 1 (tm 39)),
 Qd 4 41 (.bin .add (tm 40) (kz 1)),
 Qd 5 42 (.nchk (tm 37)),
 Qd 6 43 (.fad 11 (tm 42)),
 Qn 7 (.store 1 (tm 43) (tm 41))] [0] []
abbrev f37r3 : Pc := .reg [
 Qd 0 44 (.mv (tm 0)),
 Qd 1 45 (.call 36 [(tm 44)])] [0] []
def f37l0 : Pc := (.seq (.seq f37r0 (.cond (tm 20) .skip (.exit 0))) (.block 1 (.seq f37r1 (.seq f37r2 f37r3))))
theorem f37l0e (C : Cfg) (s : St) : evL C f37l0 s = evL C (.seq (.seq f37r0 (.cond (tm 20) .skip (.exit 0))) (.block 1 (.seq f37r1 (.seq f37r2 f37r3)))) s := rfl
abbrev f37b : Pc := (.block 0 (.loop f37l0))
abbrev f37 : Pfn := ⟨1, 46, [], f37b⟩
def f37K : Array (List Nat) := #[[0, 20], [0], [0], [0]]
def f37H : Array (List Nat) := #[[], [], [], []]
def f37A : Ann := ⟨fun r => f37K.getD r [], fun r => f37H.getD r [], fun r i => ([(1, 2013)] : List (Nat × Nat)).contains (r, i)⟩
theorem f37C : compF Go.Proofs.Tryz.prog f37A 37 = some f37 := by kernel_rfl

abbrev f38r0 : Pc := .reg [
 Qd 0 1 (.box 24 2 (tm 0)),
 Qd 1 2 (.mv kF)] [1] []
abbrev f38r1 : Pc := .reg [
 Qd 0 8 (.fad 0 (tm 1)),
 Qd 1 9 (.load false 1 (tm 8)),
 Qd 2 10 (.bin .lss (tm 9) (kz 1)),
 Qd 3 11 (.mv (tm 10)),
 Gf 4 12 11 (.fad 0 (tm 1)),
 Gf 5 13 11 (.load false 1 (tm 12)),
 Gf 6 14 11 (.bin .gtr (tm 13) (kz 8)),
 Qd 7 15 (.pick (tm 11) kT (tm 14)),
 Qd 8 16 (.mv (tm 15)),
 Gf 9 17 16 (.fad 1 (tm 1)),
 Gf 10 18 16 (.load false 1 (tm 17)),
 Gf 11 19 16 (.lenL (tm 18)),
 Gf 12 20 16 (.bin .lss (tm 19) (kz 1)),
 Qd 13 21 (.pick (tm 16) kT (tm 20)),
 Qd 14 22 (.mv (tm 21)),
 Gf 15 23 22 (.fad 1 (tm 1)),
 Gf 16 24 22 (.load false 1 (tm 23)),
 Gf 17 25 22 (.lenL (tm 24)),
 Gf 18 26 22 (.bin .gtr (tm 25) (kz 4)),
 Qd 19 27 (.pick (tm 22) kT (tm 26))] [1, 27] []
abbrev f38r2 : Pc := .reg [
 Qd 0 2 (.mv kF)] [2] [1]
abbrev f38r3 : Pc := .reg [
 Qd 0 28 (.fad 1 (tm 1)),
 Qd 1 29 (.load false 1 (tm 28)),
 Qd 2 30 (.lenL (tm 29)),
 Qd 3 31 (.mv (kz 0))] [1, 29, 30, 31] []
abbrev f38r4 : Pc := .reg [
 Qd 0 32 (.bin .lss (tm 31) (tm 30))] [1, 29, 30, 31, 32] []
abbrev f38r5 : Pc := .reg [
 Qd 0 33 (.ixS 3 (tm 29) (tm 31)),
 Qd 1 34 (.load true 3 (tm 33)),
 Qd 2 4 (.alloc 53 [.nl, .nl, (.t (.i .i64 0))]),
 Qn 3 (.store 3 (tm 4) (tm 34))] [1, 4, 29, 30, 31] []
abbrev f38r6 : Pc := .reg [
 Qd 0 35 (.fad 1 (tm 4)),
 Qd 1 36 (.load false 1 (tm 35)),
 Qd 2 37 (.lenL (tm 36)),
 Qd 3 5 (.mv (tm 37))] [1, 4, 5, 29, 30, 31] []
abbrev f38r7 : Pc := .reg [
 Qd 0 38 (.mv (tm 5)),
 Qd 1 39 (.bin .lss (tm 38) (kz 1)),
 Qd 2 40 (.mv (tm 39)),
 Gf 3 41 40 (.mv (tm 5)),
 Gf 4 42 40 (.bin .gtr (tm 41) (kz 8)),
 Qd 5 43 (.pick (tm 40) kT (tm 42)),
 Qd 6 44 (.mv (tm 43)),
 Gf 7 45 44 (.fad 0 (tm 4)),
 Gf 8 46 44 (.load false 1 (tm 45)),
 Gf 9 47 44 (.mv (tm 5)),
 Gf 10 48 44 (.fad 0 (tm 1)),
 Gf 11 49 44 (.load false 1 (tm 48)),
 Gf 12 50 44 (.call 76 [(tm 46), (tm 47), (tm 49)]),
 Gf 13 51 44 (.un .not (tm 50)),
 Qd 14 52 (.pick (tm 44) kT (tm 51)),
 Qd 15 53 (.mv (tm 52)),
 Gf 16 54 53 (.fad 2 (tm 4)),
 Gf 17 55 53 (.load false 1 (tm 54)),
 Gf 18 56 53 (.bin .lss (tm 55) (kz 1)),
 Qd 19 57 (.pick (tm 53) kT (tm 56)),
 Qd 20 58 (.mv (tm 57)),
 Gf 21 59 58 (.fad 2 (tm 4)),
 Gf 22 60 58 (.load false 1 (tm 59)),
 Gf 23 61 58 (.bin .gtr (tm 60) (kz 32)),
 Qd 24 62 (.pick (tm 58) kT (tm 61))] [1, 4, 29, 30, 31, 62] []
abbrev f38r8 : Pc := .reg [
 Qd 0 2 (.mv kF)] [2] [1, 4]
abbrev f38r9 : Pc := .reg [
 Qd 0 63 (.fad 1 (tm 4)),
 Qd 1 64 (.load false 1 (tm 63)),
 Qd 2 65 (.lenL (tm 64)),
 Qd 3 66 (.mv (kz 0))] [1, 29, 30, 31, 64, 65, 66] [4]
abbrev f38r10 : Pc := .reg [
 Qd 0 67 (.bin .lss (tm 66) (tm 65))] [1, 29, 30, 31, 64, 65, 66, 67] []
abbrev f38r11 : Pc := .reg [
 Qd 0 68 (.ixS 2 (tm 64) (tm 66)),
 Qd 1 69 (.load true 2 (tm 68)),
 Qd 2 7 (.alloc 67 [.nl, .nl]),
 Qn 3 (.store 2 (tm 7) (tm 69))] [1, 7, 29, 30, 31, 64, 65, 66] []
abbrev f38r12 : Pc := .reg [
 Qd 0 70 (.load true 2 (tm 7)),
 Qd 1 71 (.fad 0 (tm 1)),
 Qd 2 72 (.load false 1 (tm 71)),
 Qd 3 73 (.call 77 [(tm 70), (tm 72)]),
 Qd 4 74 (.un .not (tm 73))] [1, 29, 30, 31, 64, 65, 66, 74] [7]
abbrev f38r13 : Pc := .reg [
 Qd 0 2 (.mv kF)] [2] [1]
abbrev f38r14 : Pc := .reg [
 Qd 0 75 (.bin .add (tm 66) (kz 1)),
 Qd 1 66 (.mv (tm 75))] [1, 29, 30, 31, 64, 65, 66] []
def f38l0 : Pc := (.seq f38r10 (.seq (.cond (tm 67) .skip (.exit 2)) (.seq (.block 3 (.seq f38r11 (.seq f38r12 (.cond (tm 74) (.seq f38r13 .ret) .skip)))) f38r14)))
theorem f38l0e (C : Cfg) (s : St) : evL C f38l0 s = evL C (.seq f38r10 (.seq (.cond (tm 67) .skip (.exit 2)) (.seq (.block 3 (.seq f38r11 (.seq f38r12 (.cond (tm 74) (.seq f38r13 .ret) .skip)))) f38r14))) s := rfl
abbrev f38r15 : Pc := .reg [
 Qd 0 76 (.bin .add (tm 31) (kz 1)),
 Qd 1 31 (.mv (tm 76))] [1, 29, 30, 31] []
def f38l1 : Pc := (.seq f38r4 (.seq (.cond (tm 32) .skip (.exit 0)) (.seq (.block 1 (.seq f38r5 (.seq f38r6 (.seq (.seq f38r7 (.cond (tm 62) (.seq f38r8 .ret) .skip)) (.seq f38r9 (.block 2 (.loop f38l0))))))) f38r15)))
theorem f38l1e (C : Cfg) (s : St) : evL C f38l1 s = evL C (.seq f38r4 (.seq (.cond (tm 32) .skip (.exit 0)) (.seq (.block 1 (.seq f38r5 (.seq f38r6 (.seq (.seq f38r7 (.cond (tm 62) (.seq f38r8 .ret) .skip)) (.seq f38r9 (.block 2 (.loop f38l0))))))) f38r15))) s := rfl
abbrev f38r16 : Pc := .reg [
 Qd 0 2 (.mv kT)] [2] [1]
abbrev f38b : Pc := (.seq f38r0 (.seq (.seq f38r1 (.cond (tm 27) (.seq f38r2 .ret) .skip)) (.seq (.seq f38r3 (.block 0 (.loop f38l1))) (.seq f38r16 .ret))))
abbrev f38 : Pfn := ⟨1, 77, [.tmp 2], f38b⟩
def f38K : Array (List Nat) := #[[1], [1, 27], [2], [1, 29, 30, 31], [1, 29, 30, 31, 32], [1, 4, 29, 30, 31], [1, 4, 5, 29, 30, 31], [1, 4, 29, 30, 31, 62], [2], [1, 29, 30, 31, 64, 65, 66], [1, 29, 30, 31, 64, 65, 66, 67], [1, 7, 29, 30, 31, 64, 65, 66], [1, 29, 30, 31, 64, 65, 66, 74], [2], [1, 29, 30, 31, 64, 65, 66], [1, 29, 30, 31], [2]]
def f38H : Array (List Nat) := #[[], [], [1], [], [], [], [], [], [1, 4], [4], [], [], [7], [1], [], [], [1]]
def f38A : Ann := ⟨fun r => f38K.getD r [], fun r => f38H.getD r [], fun r i => ([] : List (Nat × Nat)).contains (r, i)⟩
theorem f38C : compF Go.Proofs.Tryz.prog f38A 38 = some f38 := by kernel_rfl

abbrev f39r0 : Pc := .reg [
 Qd 0 2 (.box 24 2 (tm 0)),
 Qd 1 4 (.mv kF)] [1, 2] []
abbrev f39r1 : Pc := .reg [
 Qd 0 5 (.mv (tm 1)),
 Qd 1 6 (.lenL (tm 5)),
 Qd 2 7 (.bin .gtr (tm 6) (kz 0)),
 Qd 3 8 (.mv (tm 7)),
 Gt 4 9 8 (.mv (tm 1)),
 Gt 5 10 8 (.lenL (tm 9)),
 Gt 6 11 8 (.bin .lss (tm 10) (kz 17)),
 Qd 7 12 (.pick (tm 8) (tm 11) kF),
 Qd 8 13 (.mv (tm 12)),
 Gt 9 14 13 (.mv (tm 1)),
 Gt 10 15 13 (.mv (tm 1)),
 Gt 11 16 13 (.lenL (tm 15)),
 Gt 12 17 13 (.fad 0 (tm 2)),
 Gt 13 18 13 (.load false 1 (tm 17)),
 Gt 14 19 13 (.call 76 [(tm 14), (tm 16), (tm 18)]),
 Qd 15 20 (.pick (tm 13) (tm 19) kF),
 Qd 16 4 (.mv (tm 20))] [4] [2]
abbrev f39b : Pc := (.seq f39r0 (.seq f39r1 .ret))
abbrev f39 : Pfn := ⟨2, 21, [.tmp 4], f39b⟩
def f39K : Array (List Nat) := #[[1, 2], [4]]
def f39H : Array (List Nat) := #[[], [2]]
def f39A : Ann := ⟨fun r => f39K.getD r [], fun r => f39H.getD r [], fun r i => ([] : List (Nat × Nat)).contains (r, i)⟩
theorem f39C : compF Go.Proofs.Tryz.prog f39A 39 = some f39 := by kernel_rfl

abbrev f40r0 : Pc := .reg [
 Qd 0 1 (.box 35 2 (tm 0)),
 Qd 1 2 (.mv kF)] [1] []
abbrev f40r1 : Pc := .reg [
 Qd 0 6 (.fad 0 (tm 1)),
 Qd 1 7 (.load false 1 (tm 6)),
 Qd 2 8 (.bin .lss (tm 7) (kz 0)),
 Qd 3 9 (.mv (tm 8)),
 Gf 4 10 9 (.fad 0 (tm 1)),
 Gf 5 11 9 (.load false 1 (tm 10)),
 Gf 6 12 9 (.bin .gtr (tm 11) (kz 2147483647)),
 Qd 7 13 (.pick (tm 9) kT (tm 12)),
 Qd 8 14 (.mv (tm 13)),
 Gf 9 15 14 (.fad 1 (tm 1)),
 Gf 10 16 14 (.load false 1 (tm 15)),
 Gf 11 17 14 (.lenL (tm 16)),
 Gf 12 18 14 (.bin .gtr (tm 17) (kz 8)),
 Qd 13 19 (.pick (tm 14) kT (tm 18))] [1, 19] []
abbrev f40r2 : Pc := .reg [
 Qd 0 2 (.mv kF)] [2] [1]
abbrev f40r3 : Pc := .reg [
 Qd 0 3 (.mv (kz 0))] [1, 3] []
abbrev f40r4 : Pc := .reg [
 Qd 0 20 (.mv (tm 3)),
 Qd 1 21 (.fad 1 (tm 1)),
 Qd 2 22 (.load false 1 (tm 21)),
 Qd 3 23 (.lenL (tm 22)),
 Qd 4 24 (.bin .lss (tm 20) (tm 23))] [1, 3, 24] []
abbrev f40r6 : Pc := .reg [
 Qd 0 27 (.fad 1 (tm 1)),
 Qd 1 28 (.load false 1 (tm 27)),
 Qd 2 29 (.mv (tm 3)),
 Qd 3 30 (.ixS 1 (tm 28) (tm 29)),
 Qd 4 31 (.load false 1 (tm 30)),
 Qd 5 4 (.mv (tm 31))] [1, 3, 4] []
abbrev f40r7 : Pc := .reg [
 Qd 0 32 (.mv (tm 4)),
 Qd 1 33 (.lenL (tm 32)),
 Qd 2 34 (.bin .eql (tm 33) (kz 0))] [1, 3, 4, 34] []
abbrev f40r8 : Pc := .reg [
 Qd 0 2 (.mv kF)] [2] [1]
abbrev f40r9 : Pc := .reg [
 Qd 0 5 (.mv (kz 0))] [1, 3, 4, 5] []
abbrev f40r10 : Pc := .reg [
 Qd 0 35 (.mv (tm 5)),
 Qd 1 36 (.mv (tm 4)),
 Qd 2 37 (.lenL (tm 36)),
 Qd 3 38 (.bin .lss (tm 35) (tm 37))] [1, 3, 4, 5, 38] []
abbrev f40r12 : Pc := .reg [
 Qd 0 41 (.mv (tm 4)),
 Qd 1 42 (.mv (tm 5)),
 Qd 2 43 (.ixS 1 (tm 41) (tm 42)),
 Qd 3 44 (.load false 1 (tm 43)),
 Qd 4 45 (.bin .lss (tm 44) (kz 1)),
 Qd 5 46 (.mv (tm 45)),
 Gf 6 47 46 (.mv (tm 4)),
 Gf 7 48 46 (.mv (tm 5)),
 Gf 8 49 46 (.ixS 1 (tm 47) (tm 48)),
 Gf 9 50 46 (.load false 1 (tm 49)),
 Gf 10 51 46 (.bin .gtr (tm 50) (kz 4)),
 Qd 11 52 (.pick (tm 46) kT (tm 51)),
 Qd 12 53 (.mv (tm 52)),
 Gf 13 54 53 (.mv (tm 5)),
 Gf 14 55 53 (.bin .gtr (tm 54) (kz 0)),
 Gf 15 56 53 (.mv (tm 55)),
 Gt 16 57 56 (.mv (tm 4)),
 Gt 17 58 56 (.mv (tm 5)),
 Gt 18 59 56 (.ixS 1 (tm 57) (tm 58)),
 Gt 19 60 56 (.load false 1 (tm 59)),
 Gt 20 61 56 (.mv (tm 4)),
 Gt 21 62 56 (.mv (tm 5)),
 Gt 22 63 56 (.bin .sub (tm 62) (kz 1)),
 Gt 23 64 56 (.ixS 1 (tm 61) (tm 63)),
 Gt 24 65 56 (.load false 1 (tm 64)),
 Gt 25 66 56 (.bin .leq (tm 60) (tm 65)),
 Gf 26 67 53 (.pick (tm 56) (tm 66) kF),
 Qd 27 68 (.pick (tm 53) kT (tm 67))] [1, 3, 4, 5, 68] []
abbrev f40r13 : Pc := .reg [
 Qd 0 2 (.mv kF)] [2] [1]
abbrev f40r11 : Pc := .reg [
 Qd 0 39 (.mv (tm 5)),
 Qd 1 40 (.bin .add (tm 39) (kz 1)),
 Qd 2 5 (.mv (tm 40))] [1, 3, 4, 5] []
def f40l0 : Pc := (.seq (.seq f40r10 (.cond (tm 38) .skip (.exit 2))) (.seq (.block 3 (.seq f40r12 (.cond (tm 68) (.seq f40r13 .ret) .skip))) f40r11))
theorem f40l0e (C : Cfg) (s : St) : evL C f40l0 s = evL C (.seq (.seq f40r10 (.cond (tm 38) .skip (.exit 2))) (.seq (.block 3 (.seq f40r12 (.cond (tm 68) (.seq f40r13 .ret) .skip))) f40r11)) s := rfl
abbrev f40r5 : Pc := .reg [
 Qd 0 25 (.mv (tm 3)),
 Qd 1 26 (.bin .add (tm 25) (kz 1)),
 Qd 2 3 (.mv (tm 26))] [1, 3] []
def f40l1 : Pc := (.seq (.seq f40r4 (.cond (tm 24) .skip (.exit 0))) (.seq (.block 1 (.seq f40r6 (.seq (.seq f40r7 (.cond (tm 34) (.seq f40r8 .ret) .skip)) (.seq f40r9 (.block 2 (.loop f40l0)))))) f40r5))
theorem f40l1e (C : Cfg) (s : St) : evL C f40l1 s = evL C (.seq (.seq f40r4 (.cond (tm 24) .skip (.exit 0))) (.seq (.block 1 (.seq f40r6 (.seq (.seq f40r7 (.cond (tm 34) (.seq f40r8 .ret) .skip)) (.seq f40r9 (.block 2 (.loop f40l0)))))) f40r5)) s := rfl
abbrev f40r14 : Pc := .reg [
 Qd 0 2 (.mv kT)] [2] [1]
abbrev f40b : Pc := (.seq f40r0 (.seq (.seq f40r1 (.cond (tm 19) (.seq f40r2 .ret) .skip)) (.seq (.seq f40r3 (.block 0 (.loop f40l1))) (.seq f40r14 .ret))))
abbrev f40 : Pfn := ⟨1, 69, [.tmp 2], f40b⟩
def f40K : Array (List Nat) := #[[1], [1, 19], [2], [1, 3], [1, 3, 24], [1, 3], [1, 3, 4], [1, 3, 4, 34], [2], [1, 3, 4, 5], [1, 3, 4, 5, 38], [1, 3, 4, 5], [1, 3, 4, 5, 68], [2], [2]]
def f40H : Array (List Nat) := #[[], [], [1], [], [], [], [], [], [1], [], [], [], [], [1], [1]]
def f40A : Ann := ⟨fun r => f40K.getD r [], fun r => f40H.getD r [], fun r i => ([] : List (Nat × Nat)).contains (r, i)⟩
theorem f40C : compF Go.Proofs.Tryz.prog f40A 40 = some f40 := by kernel_rfl

abbrev f41r0 : Pc := .reg [
 Qd 0 2 (.nilv 9 1)] [0] [2, 5, 7]
abbrev f41r1 : Pc := .reg [
 Qd 0 3 (.mv (tm 0)),
 Qd 1 4 (.isnilS false (tm 3))] [0, 4] []
abbrev f41r2 : Pc := .reg [
 Qd 0 2 (.nilv 9 1)] [2] []
abbrev f41r3 : Pc := .reg [
 Qd 0 5 (.bslO 9 1 []),
 Qd 1 6 (.mv (tm 0)),
 Qd 2 7 (.app 9 1 16 (tm 5) (tm 6)),
 Qd 3 2 (.mv (tm 7))] [2] []
abbrev f41b : Pc := (.seq f41r0 (.seq (.seq f41r1 (.cond (tm 4) (.seq f41r2 .ret) .skip)) (.seq f41r3 .ret)))
abbrev f41 : Pfn := ⟨1, 8, [.tmp 2], f41b⟩
def f41K : Array (List Nat) := #[[0], [0, 4], [2], [2]]
def f41H : Array (List Nat) := #[[2, 5, 7], [], [], []]
def f41A : Ann := ⟨fun r => f41K.getD r [], fun r => f41H.getD r [], fun r i => ([(3, 0), (3, 0)] : List (Nat × Nat)).contains (r, i)⟩
theorem f41C : compF Go.Proofs.Tryz.prog f41A 41 = some f41 := by kernel_rfl

abbrev f42r0 : Pc := .reg [
 Qd 0 1 (.box 44 11 (tm 0)),
 Qd 1 2 (.nilv 3 1)] [1] [2, 27, 31]
abbrev f42r1 : Pc := .reg [
 Qd 0 4 (.fad 0 (tm 1)),
 Qd 1 5 (.load false 1 (tm 4)),
 Qd 2 6 (.fad 1 (tm 1)),
 Qd 3 7 (.load false 1 (tm 6)),
 Qd 4 8 (.fad 2 (tm 1)),
 Qd 5 9 (.load false 1 (tm 8)),
 Qd 6 10 (.fad 3 (tm 1)),
 Qd 7 11 (.load false 1 (tm 10)),
 Qd 8 12 (.fad 4 (tm 1)),
 Qd 9 13 (.load false 1 (tm 12)),
 Qd 10 14 (.fad 5 (tm 1)),
 Qd 11 15 (.load false 1 (tm 14)),
 Qd 12 16 (.fad 6 (tm 1)),
 Qd 13 17 (.load false 1 (tm 16)),
 Qd 14 18 (.fad 7 (tm 1)),
 Qd 15 19 (.load false 1 (tm 18)),
 Qd 16 20 (.fad 8 (tm 1)),
 Qd 17 21 (.load false 1 (tm 20)),
 Qd 18 22 (.fad 9 (tm 1)),
 Qd 19 23 (.load false 1 (tm 22)),
 Qd 20 24 (.fad 10 (tm 1)),
 Qd 21 25 (.load false 1 (tm 24)),
 Qd 22 26 (.lenL (tm 25)),
 Qd 23 27 (.bslO 3 1 [(tm 5), (tm 7), (tm 9), (tm 11), (tm 13), (tm 15), (tm 17), (tm 19), (tm 21), (tm 23), (tm 26)]),
 Qd 24 3 (.mv (tm 27))] [1, 3] []
abbrev f42r2 : Pc := .reg [
 Qd 0 28 (.mv (tm 3)),
 Qd 1 29 (.fad 10 (tm 1)),
 Qd 2 30 (.load false 1 (tm 29)),
 Qd 3 31 (.app 3 1 8 (tm 28) (tm 30)),
 Qd 4 2 (.mv (tm 31))] [2] [1]
abbrev f42b : Pc := (.seq f42r0 (.seq f42r1 (.seq f42r2 .ret)))
abbrev f42 : Pfn := ⟨1, 32, [.tmp 2], f42b⟩
def f42K : Array (List Nat) := #[[1], [1, 3], [2]]
def f42H : Array (List Nat) := #[[2, 27, 31], [], [1]]
def f42A : Ann := ⟨fun r => f42K.getD r [], fun r => f42H.getD r [], fun r i => ([(1, 23)] : List (Nat × Nat)).contains (r, i)⟩
theorem f42C : compF Go.Proofs.Tryz.prog f42A 42 = some f42 := by kernel_rfl

abbrev f43r0 : Pc := .reg [
 Qd 0 2 (.mv (.c (.t (.s []))))] [0] []
abbrev f43r1 : Pc := .reg [
 Qd 0 3 (.mv (tm 0)),
 Qd 1 4 (.bin .lss (tm 3) (kz 0))] [0, 4] []
abbrev f43r2 : Pc := .reg [
 Qd 0 5 (.mv (tm 0)),
 Qd 1 6 (.bin .add (tm 5) (kz 4294967296)),
 Qd 2 0 (.mv (tm 6))] [0] []
abbrev f43r3 : Pc := .reg [
 Qd 0 7 (.mv (tm 0)),
 Qd 1 8 (.bin .rem (tm 7) (kz 256)),
 Qd 2 9 (.cvi .u8 (tm 8)),
 Qd 3 10 (.mv (tm 0)),
 Qd 4 11 (.bin .quo (tm 10) (kz 256)),
 Qd 5 12 (.bin .rem (tm 11) (kz 256)),
 Qd 6 13 (.cvi .u8 (tm 12)),
 Qd 7 14 (.mv (tm 0)),
 Qd 8 15 (.bin .quo (tm 14) (kz 65536)),
 Qd 9 16 (.bin .rem (tm 15) (kz 256)),
 Qd 10 17 (.cvi .u8 (tm 16)),
 Qd 11 18 (.mv (tm 0)),
 Qd 12 19 (.bin .quo (tm 18) (kz 16777216)),
 Qd 13 20 (.bin .rem (tm 19) (kz 256)),
 Qd 14 21 (.cvi .u8 (tm 20)),
 Qd 15 22 (.bslT 1 [(tm 9), (tm 13), (tm 17), (tm 21)]),
 Qd 16 23 (.cvbs (tm 22)),
 Qd 17 2 (.mv (tm 23))] [2] []
abbrev f43b : Pc := (.seq f43r0 (.seq (.seq f43r1 (.cond (tm 4) f43r2 .skip)) (.seq f43r3 .ret)))
abbrev f43 : Pfn := ⟨1, 24, [.tmp 2], f43b⟩
def f43K : Array (List Nat) := #[[0], [0, 4], [0], [2]]
def f43H : Array (List Nat) := #[[], [], [], []]
def f43A : Ann := ⟨fun r => f43K.getD r [], fun r => f43H.getD r [], fun r i => ([] : List (Nat × Nat)).contains (r, i)⟩
theorem f43C : compF Go.Proofs.Tryz.prog f43A 43 = some f43 := by kernel_rfl

abbrev f44r0 : Pc := .reg [
 Qd 0 2 (.mv (kz 0))] [0] []
abbrev f44r1 : Pc := .reg [
 Qd 0 3 (.mv (kz 4294967295))] [0, 3] []
abbrev f44r2 : Pc := .reg [
 Qd 0 4 (.mv (kz 0))] [0, 3, 4] []
abbrev f44r3 : Pc := .reg [
 Qd 0 7 (.mv (tm 4)),
 Qd 1 8 (.mv (tm 0)),
 Qd 2 9 (.lenS (tm 8)),
 Qd 3 10 (.bin .lss (tm 7) (tm 9))] [0, 3, 4, 10] []
abbrev f44r5 : Pc := .reg [
 Qd 0 13 (.mv (tm 3)),
 Qd 1 14 (.mv (tm 0)),
 Qd 2 15 (.mv (tm 4)),
 Qd 3 16 (.ixs (tm 14) (tm 15)),
 Qd 4 17 (.cvi .i64 (tm 16)),
 Qd 5 18 (.call 78 [(tm 13), (tm 17)]),
 Qd 6 3 (.mv (tm 18))] [0, 3, 4] []
abbrev f44r6 : Pc := .reg [
 Qd 0 5 (.mv (kz 0))] [0, 3, 4, 5] []
abbrev f44r7 : Pc := .reg [
 Qd 0 19 (.mv (tm 5)),
 Qd 1 20 (.bin .lss (tm 19) (kz 8))] [0, 3, 4, 5, 20] []
abbrev f44r9 : Pc := .reg [
 Qd 0 23 (.mv (tm 3)),
 Qd 1 24 (.bin .rem (tm 23) (kz 2)),
 Qd 2 25 (.bin .eql (tm 24) (kz 1)),
 Qd 3 6 (.mv (tm 25))] [0, 3, 4, 5, 6] []
abbrev f44r10 : Pc := .reg [
 Qd 0 26 (.mv (tm 3)),
 Qd 1 27 (.bin .quo (tm 26) (kz 2)),
 Qd 2 3 (.mv (tm 27))] [0, 3, 4, 5, 6] []
abbrev f44r11 : Pc := .reg [
 Qd 0 28 (.mv (tm 6))] [0, 3, 4, 5, 28] []
abbrev f44r12 : Pc := .reg [
 Qd 0 29 (.mv (tm 3)),
 Qd 1 30 (.call 78 [(tm 29), (kz 3988292384)]),
 Qd 2 3 (.mv (tm 30))] [0, 3, 4, 5] []
abbrev f44r8 : Pc := .reg [
 Qd 0 21 (.mv (tm 5)),
 Qd 1 22 (.bin .add (tm 21) (kz 1)),
 Qd 2 5 (.mv (tm 22))] [0, 3, 4, 5] []
def f44l0 : Pc := (.seq (.seq f44r7 (.cond (tm 20) .skip (.exit 2))) (.seq (.block 3 (.seq f44r9 (.seq f44r10 (.seq f44r11 (.cond (tm 28) f44r12 .skip))))) f44r8))
theorem f44l0e (C : Cfg) (s : St) : evL C f44l0 s = evL C (.seq (.seq f44r7 (.cond (tm 20) .skip (.exit 2))) (.seq (.block 3 (.seq f44r9 (.seq f44r10 (.seq f44r11 (.cond (tm 28) f44r12 .skip))))) f44r8)) s := rfl
abbrev f44r4 : Pc := .reg [
 Qd 0 11 (.mv (tm 4)),
 Qd 1 12 (.bin .add (tm 11) (kz 1)),
 Qd 2 4 (.mv (tm 12))] [0, 3, 4] []
def f44l1 : Pc := (.seq (.seq f44r3 (.cond (tm 10) .skip (.exit 0))) (.seq (.block 1 (.seq f44r5 (.seq f44r6 (.block 2 (.loop f44l0))))) f44r4))
theorem f44l1e (C : Cfg) (s : St) : evL C f44l1 s = evL C (.seq (.seq f44r3 (.cond (tm 10) .skip (.exit 0))) (.seq (.block 1 (.seq f44r5 (.seq f44r6 (.block 2 (.loop f44l0))))) f44r4)) s := rfl
abbrev f44r13 : Pc := .reg [
 Qd 0 31 (.mv (tm 3)),
 Qd 1 32 (.call 78 [(tm 31), (kz 4294967295)]),
 Qd 2 2 (.mv (tm 32))] [2] []
abbrev f44b : Pc := (.seq f44r0 (.seq f44r1 (.seq (.seq f44r2 (.block 0 (.loop f44l1))) (.seq f44r13 .ret))))
abbrev f44 : Pfn := ⟨1, 33, [.tmp 2], f44b⟩
def f44K : Array (List Nat) := #[[0], [0, 3], [0, 3, 4], [0, 3, 4, 10], [0, 3, 4], [0, 3, 4], [0, 3, 4, 5], [0, 3, 4, 5, 20], [0, 3, 4, 5], [0, 3, 4, 5, 6], [0, 3, 4, 5, 6], [0, 3, 4, 5, 28], [0, 3, 4, 5], [2]]
def f44H : Array (List Nat) := #[[], [], [], [], [], [], [], [], [], [], [], [], [], []]
def f44A : Ann := ⟨fun r => f44K.getD r [], fun r => f44H.getD r [], fun r i => ([] : List (Nat × Nat)).contains (r, i)⟩
theorem f44C : compF Go.Proofs.Tryz.prog f44A 44 = some f44 := by kernel_rfl

abbrev f45r0 : Pc := .reg [
 Qd 0 4 (.alloc 88 [(.t (.i .i64 0)), (.t (.i .i64 0)), (.t (.i .i64 0)), (.t (.i .i64 0))]),
 Qd 1 5 (.mv kF)] [0, 1, 4] []
abbrev f45r1 : Pc := .reg [
 Qd 0 12 (.mv (tm 0)),
 Qd 1 13 (.mv (tm 1)),
 Qd 2 14 (.call 79 [(tm 12), (tm 13)]),
 Qd 3 11 (.mv (tm 14)),
 Qd 4 15 (.ext 0 (tm 11)),
 Qd 5 16 (.ext 1 (tm 11)),
 Qd 6 6 (.mv (tm 15)),
 Qd 7 7 (.mv (tm 16))] [4, 6, 7] []
abbrev f45r2 : Pc := .reg [
 Qd 0 17 (.mv (tm 7)),
 Qd 1 18 (.un .not (tm 17)),
 Qd 2 19 (.mv (tm 18)),
 Gf 3 20 19 (.mv (tm 6)),
 Gf 4 21 19 (.lenL (tm 20)),
 Gf 5 22 19 (.bin .eql (tm 21) (kz 0)),
 Qd 6 23 (.pick (tm 19) kT (tm 22))] [4, 6, 23] []
abbrev f45r3 : Pc := .reg [
 Qd 0 24 (.build [(.t (.i .i64 0)), (.t (.i .i64 0)), (.t (.i .i64 0)), (.t (.i .i64 0))] []),
 Qn 1 (.store 4 (tm 4) (tm 24)),
 Qd 2 5 (.mv kF)] [4, 5] []
abbrev f45r4 : Pc := .reg [
 Qd 0 25 (.mv (tm 6)),
 Qd 1 26 (.call 80 [(tm 25), (kz 0)]),
 Qd 2 27 (.mv (tm 6)),
 Qd 3 28 (.call 80 [(tm 27), (kz 1)]),
 Qd 4 8 (.mv (tm 26)),
 Qd 5 9 (.mv (tm 28))] [4, 6, 8, 9] []
abbrev f45r5 : Pc := .reg [
 Qd 0 10 (.mv (kz 65536))] [4, 6, 8, 9, 10] []
abbrev f45r6 : Pc := .reg [
 Qd 0 29 (.mv (tm 9)),
 Qd 1 30 (.bin .geq (tm 29) (kz 0))] [4, 6, 8, 9, 10, 30] []
abbrev f45r7 : Pc := .reg [
 Qd 0 31 (.mv (tm 6)),
 Qd 1 32 (.mv (tm 8)),
 Qd 2 33 (.ixS 1 (tm 31) (tm 32)),
 Qd 3 34 (.load false 1 (tm 33)),
 Qd 4 35 (.mv (tm 6)),
 Qd 5 36 (.mv (tm 9)),
 Qd 6 37 (.ixS 1 (tm 35) (tm 36)),
 Qd 7 38 (.load false 1 (tm 37)),
 Qd 8 39 (.callq 81 [(tm 34), (tm 38)]),
 Qd 9 10 (.mv (tm 39))] [4, 8, 9, 10] []
abbrev f45r8 : Pc := .reg [
 Qd 0 40 (.mv (tm 8)),
 Qd 1 41 (.mv (tm 9)),
 Qd 2 42 (.mv (tm 10)),
 Qd 3 43 (.mv (tm 10)),
 Qd 4 44 (.bin .sub (kz 65536) (tm 43)),
 Qd 5 45 (.build [(.t (.i .i64 0)), (.t (.i .i64 0)), (.t (.i .i64 0)), (.t (.i .i64 0))] [(0, 1, (tm 40)), (1, 1, (tm 41)), (2, 1, (tm 42)), (3, 1, (tm 44))]),
 Qn 6 (.store 4 (tm 4) (tm 45)),
 Qd 7 5 (.mv kT)] [4, 5] []
abbrev f45b : Pc := (.seq f45r0 (.seq f45r1 (.seq (.seq f45r2 (.cond (tm 23) (.seq f45r3 .ret) .skip)) (.seq f45r4 (.seq f45r5 (.seq (.seq f45r6 (.cond (tm 30) f45r7 .skip)) (.seq f45r8 .ret)))))))
abbrev f45 : Pfn := ⟨2, 46, [.cell 4 true 4, .tmp 5], f45b⟩
def f45K : Array (List Nat) := #[[0, 1, 4], [4, 6, 7], [4, 6, 23], [4, 5], [4, 6, 8, 9], [4, 6, 8, 9, 10], [4, 6, 8, 9, 10, 30], [4, 8, 9, 10], [4, 5]]
def f45H : Array (List Nat) := #[[], [], [], [], [], [], [], [], []]
def f45A : Ann := ⟨fun r => f45K.getD r [], fun r => f45H.getD r [], fun r i => ([] : List (Nat × Nat)).contains (r, i)⟩
theorem f45C : compF Go.Proofs.Tryz.prog f45A 45 = some f45 := by kernel_rfl

abbrev f46r0 : Pc := .reg [
 Qd 0 10 (.mv (kz 0))] [0, 1, 2, 3, 4] []
abbrev f46r1 : Pc := .reg [
 Qd 0 13 (.mv (tm 0)),
 Qd 1 14 (.mv (tm 3)),
 Qd 2 15 (.mv (tm 4)),
 Qd 3 16 (.ixS 2 (tm 13) (tm 14)),
 Qd 4 17 (.ixA 2 1 (tm 16) (tm 15)),
 Qd 5 18 (.load false 1 (tm 17)),
 Qd 6 11 (.mv (tm 18))] [0, 1, 2, 3, 4, 11] []
abbrev f46r2 : Pc := .reg [
 Qd 0 19 (.mv (tm 0)),
 Qd 1 20 (.mv (tm 3)),
 Qd 2 21 (.mv (tm 4)),
 Qd 3 22 (.mv (tm 11)),
 Qd 4 23 (.call 82 [(tm 19), (tm 20), (tm 21), (tm 22)]),
 Qd 5 12 (.mv (tm 23))] [1, 2, 11, 12] []
abbrev f46r3 : Pc := .reg [
 Qd 0 24 (.mv (tm 11)),
 Qd 1 25 (.bin .lss (tm 24) (kz 0)),
 Qd 2 26 (.mv (tm 25)),
 Gf 3 27 26 (.mv (tm 11)),
 Gf 4 28 26 (.mv (tm 1)),
 Gf 5 29 26 (.bin .geq (tm 27) (tm 28)),
 Qd 6 30 (.pick (tm 26) kT (tm 29)),
 Qd 7 31 (.mv (tm 30)),
 Gf 8 32 31 (.mv (tm 12)),
 Gf 9 33 31 (.mv (tm 2)),
 Gf 10 34 31 (.bin .geq (tm 32) (tm 33)),
 Qd 11 35 (.pick (tm 31) kT (tm 34))] [12, 35] []
abbrev f46r4 : Pc := .reg [
 Qd 0 10 (.mv (kz (-1)))] [10] []
abbrev f46r5 : Pc := .reg [
 Qd 0 36 (.mv (tm 12)),
 Qd 1 10 (.mv (tm 36))] [10] []
abbrev f46b : Pc := (.seq f46r0 (.seq f46r1 (.seq f46r2 (.seq (.seq f46r3 (.cond (tm 35) (.seq f46r4 .ret) .skip)) (.seq f46r5 .ret)))))
abbrev f46 : Pfn := ⟨5, 37, [.tmp 10], f46b⟩
def f46K : Array (List Nat) := #[[0, 1, 2, 3, 4], [0, 1, 2, 3, 4, 11], [1, 2, 11, 12], [12, 35], [10], [10]]
def f46H : Array (List Nat) := #[[], [], [], [], [], []]
def f46A : Ann := ⟨fun r => f46K.getD r [], fun r => f46H.getD r [], fun r i => ([] : List (Nat × Nat)).contains (r, i)⟩
theorem f46C : compF Go.Proofs.Tryz.prog f46A 46 = some f46 := by kernel_rfl

abbrev f47r0 : Pc := .reg [
 Qd 0 4 (.nilv 3 1)] [0, 1] [4, 5, 27]
abbrev f47r1 : Pc := .reg [
 Qd 0 5 (.nilv 3 1)] [0, 1, 5] []
abbrev f47r2 : Pc := .reg [
 Qd 0 6 (.mv (kz 0))] [0, 1, 5, 6] []
abbrev f47r3 : Pc := .reg [
 Qd 0 7 (.mv (tm 6)),
 Qd 1 8 (.mv (tm 0)),
 Qd 2 9 (.lenL (tm 8)),
 Qd 3 10 (.bin .lss (tm 7) (tm 9))] [0, 1, 5, 6, 10] []
abbrev f47r5 : Pc := .reg [
 Qd 0 13 (.mv (tm 5)),
 Qd 1 14 (.mv (tm 0)),
 Qd 2 15 (.mv (tm 6)),
 Qd 3 16 (.ixS 1 (tm 14) (tm 15)),
 Qd 4 17 (.load false 1 (tm 16)),
 Qd 5 18 (.callq 83 [(tm 17)]),
 Qd 6 19 (.mv (tm 1)),
 Qd 7 20 (.mv (tm 6)),
 Qd 8 21 (.ixS 1 (tm 19) (tm 20)),
 Qd 9 22 (.load false 1 (tm 21)),
 Qd 10 23 (.callq 83 [(tm 22)]),
 Qd 11 24 (.bin .add (tm 18) (tm 23)),
 Qd 12 25 (.callq 83 [(tm 24)]),
 Qd 13 26 (.bslT 1 [(tm 25)]),
 Qd 14 27 (.app 3 1 8 (tm 13) (tm 26)),
 Qd 15 5 (.mv (tm 27))] [0, 1, 5, 6] []
abbrev f47r4 : Pc := .reg [
 Qd 0 11 (.mv (tm 6)),
 Qd 1 12 (.bin .add (tm 11) (kz 1)),
 Qd 2 6 (.mv (tm 12))] [0, 1, 5, 6] []
def f47l0 : Pc := (.seq (.seq f47r3 (.cond (tm 10) .skip (.exit 0))) (.seq (.block 1 f47r5) f47r4))
theorem f47l0e (C : Cfg) (s : St) : evL C f47l0 s = evL C (.seq (.seq f47r3 (.cond (tm 10) .skip (.exit 0))) (.seq (.block 1 f47r5) f47r4)) s := rfl
abbrev f47r6 : Pc := .reg [
 Qd 0 28 (.mv (tm 5)),
 Qd 1 4 (.mv (tm 28))] [4] []
abbrev f47b : Pc := (.seq f47r0 (.seq f47r1 (.seq (.seq f47r2 (.block 0 (.loop f47l0))) (.seq f47r6 .ret))))
abbrev f47 : Pfn := ⟨2, 29, [.tmp 4], f47b⟩
def f47K : Array (List Nat) := #[[0, 1], [0, 1, 5], [0, 1, 5, 6], [0, 1, 5, 6, 10], [0, 1, 5, 6], [0, 1, 5, 6], [4]]
def f47H : Array (List Nat) := #[[4, 5, 27], [], [], [], [], [], []]
def f47A : Ann := ⟨fun r => f47K.getD r [], fun r => f47H.getD r [], fun r i => ([] : List (Nat × Nat)).contains (r, i)⟩
theorem f47C : compF Go.Proofs.Tryz.prog f47A 47 = some f47 := by kernel_rfl

abbrev f48r0 : Pc := .reg [
 Qd 0 4 (.nilv 3 1)] [0, 1] [4, 5, 21]
abbrev f48r1 : Pc := .reg [
 Qd 0 5 (.nilv 3 1)] [0, 1, 5] []
abbrev f48r2 : Pc := .reg [
 Qd 0 6 (.mv (kz 0))] [0, 1, 5, 6] []
abbrev f48r3 : Pc := .reg [
 Qd 0 7 (.mv (tm 6)),
 Qd 1 8 (.mv (tm 0)),
 Qd 2 9 (.lenL (tm 8)),
 Qd 3 10 (.bin .lss (tm 7) (tm 9))] [0, 1, 5, 6, 10] []
abbrev f48r5 : Pc := .reg [
 Qd 0 13 (.mv (tm 5)),
 Qd 1 14 (.mv (tm 0)),
 Qd 2 15 (.mv (tm 6)),
 Qd 3 16 (.ixS 1 (tm 14) (tm 15)),
 Qd 4 17 (.load false 1 (tm 16)),
 Qd 5 18 (.mv (tm 1)),
 Qd 6 19 (.call 84 [(tm 17), (tm 18)]),
 Qd 7 20 (.bslT 1 [(tm 19)]),
 Qd 8 21 (.app 3 1 8 (tm 13) (tm 20)),
 Qd 9 5 (.mv (tm 21))] [0, 1, 5, 6] []
abbrev f48r4 : Pc := .reg [
 Qd 0 11 (.mv (tm 6)),
 Qd 1 12 (.bin .add (tm 11) (kz 1)),
 Qd 2 6 (.mv (tm 12))] [0, 1, 5, 6] []
def f48l0 : Pc := (.seq (.seq f48r3 (.cond (tm 10) .skip (.exit 0))) (.seq (.block 1 f48r5) f48r4))
theorem f48l0e (C : Cfg) (s : St) : evL C f48l0 s = evL C (.seq (.seq f48r3 (.cond (tm 10) .skip (.exit 0))) (.seq (.block 1 f48r5) f48r4)) s := rfl
abbrev f48r6 : Pc := .reg [
 Qd 0 22 (.mv (tm 5)),
 Qd 1 4 (.mv (tm 22))] [4] []
abbrev f48b : Pc := (.seq f48r0 (.seq f48r1 (.seq (.seq f48r2 (.block 0 (.loop f48l0))) (.seq f48r6 .ret))))
abbrev f48 : Pfn := ⟨2, 23, [.tmp 4], f48b⟩
def f48K : Array (List Nat) := #[[0, 1], [0, 1, 5], [0, 1, 5, 6], [0, 1, 5, 6, 10], [0, 1, 5, 6], [0, 1, 5, 6], [4]]
def f48H : Array (List Nat) := #[[4, 5, 21], [], [], [], [], [], []]
def f48A : Ann := ⟨fun r => f48K.getD r [], fun r => f48H.getD r [], fun r i => ([] : List (Nat × Nat)).contains (r, i)⟩
theorem f48C : compF Go.Proofs.Tryz.prog f48A 48 = some f48 := by kernel_rfl

abbrev f49r0 : Pc := .reg [
 Qd 0 2 (.box 67 2 (tm 0)),
 Qd 1 4 (.nilv 3 1)] [1, 2] [4]
abbrev f49r1 : Pc := .reg [
 Qd 0 10 (.fad 0 (tm 2)),
 Qd 1 11 (.load false 1 (tm 10)),
 Qd 2 12 (.mv (tm 1)),
 Qd 3 13 (.call 79 [(tm 11), (tm 12)]),
 Qd 4 9 (.mv (tm 13)),
 Qd 5 14 (.ext 0 (tm 9)),
 Qd 6 15 (.ext 1 (tm 9)),
 Qd 7 5 (.mv (tm 14)),
 Qd 8 6 (.mv (tm 15))] [2, 5] []
abbrev f49r2 : Pc := .reg [
 Qd 0 17 (.fad 1 (tm 2)),
 Qd 1 18 (.load false 1 (tm 17)),
 Qd 2 19 (.mv (tm 5)),
 Qd 3 20 (.callq 85 [(tm 19)]),
 Qd 4 21 (.callq 79 [(tm 18), (tm 20)]),
 Qd 5 16 (.mv (tm 21)),
 Qd 6 22 (.ext 0 (tm 16)),
 Qd 7 23 (.ext 1 (tm 16)),
 Qd 8 7 (.mv (tm 22)),
 Qd 9 8 (.mv (tm 23))] [7] [2]
abbrev f49r3 : Pc := .reg [
 Qd 0 24 (.mv (tm 7)),
 Qd 1 4 (.mv (tm 24))] [4] []
abbrev f49b : Pc := (.seq f49r0 (.seq f49r1 (.seq f49r2 (.seq f49r3 .ret))))
abbrev f49 : Pfn := ⟨2, 25, [.tmp 4], f49b⟩
def f49K : Array (List Nat) := #[[1, 2], [2, 5], [7], [4]]
def f49H : Array (List Nat) := #[[4], [], [2], []]
def f49A : Ann := ⟨fun r => f49K.getD r [], fun r => f49H.getD r [], fun r i => ([] : List (Nat × Nat)).contains (r, i)⟩
theorem f49C : compF Go.Proofs.Tryz.prog f49A 49 = some f49 := by kernel_rfl

abbrev f50r0 : Pc := .reg [
 Qd 0 4 (.mv (.c (.t (.s [])))),
 Qd 1 5 (.nilv 9 1),
 Qd 2 6 (.mv kF)] [0, 1] [5, 16, 22]
abbrev f50r1 : Pc := .reg [
 Qd 0 7 (.mv (tm 1)),
 Qd 1 8 (.bin .lss (tm 7) (kz 0)),
 Qd 2 9 (.mv (tm 8)),
 Gf 3 10 9 (.mv (tm 1)),
 Gf 4 11 9 (.mv (tm 0)),
 Gf 5 12 9 (.lenL (tm 11)),
 Gf 6 13 9 (.bin .geq (tm 10) (tm 12)),
 Qd 7 14 (.pick (tm 9) kT (tm 13))] [0, 1, 14] []
abbrev f50r2 : Pc := .reg [
 Qd 0 15 (.mv (tm 0)),
 Qd 1 16 (.call 41 [(tm 15)]),
 Qd 2 4 (.mv (.c (.t (.s [])))),
 Qd 3 5 (.mv (tm 16)),
 Qd 4 6 (.mv kF)] [4, 5, 6] []
abbrev f50r3 : Pc := .reg [
 Qd 0 17 (.mv (tm 0)),
 Qd 1 18 (.mv (tm 1)),
 Qd 2 19 (.ixS 1 (tm 17) (tm 18)),
 Qd 3 20 (.loadB false 1 (tm 19)),
 Qd 4 21 (.mv (tm 0)),
 Qd 5 22 (.callo 41 [(tm 21)]),
 Qd 6 23 (.mv (tm 1)),
 Qd 7 24 (.mv (tm 1)),
 Qd 8 25 (.bin .add (tm 24) (kz 1)),
 Qd 9 26 (.callR 86 [(tm 22), (tm 23), (tm 25)]),
 Qd 10 4 (.mv (tm 20)),
 Qd 11 5 (.mv (tm 26)),
 Qd 12 6 (.mv kT)] [4, 5, 6] []
abbrev f50b : Pc := (.seq f50r0 (.seq (.seq f50r1 (.cond (tm 14) (.seq f50r2 .ret) .skip)) (.seq f50r3 .ret)))
abbrev f50 : Pfn := ⟨2, 27, [.tmp 4, .tmp 5, .tmp 6], f50b⟩
def f50K : Array (List Nat) := #[[0, 1], [0, 1, 14], [4, 5, 6], [4, 5, 6]]
def f50H : Array (List Nat) := #[[5, 16, 22], [], [], []]
def f50A : Ann := ⟨fun r => f50K.getD r [], fun r => f50H.getD r [], fun r i => ([(3, 5), (3, 1009), (3, 3)] : List (Nat × Nat)).contains (r, i)⟩
theorem f50C : compF Go.Proofs.Tryz.prog f50A 50 = some f50 := by kernel_rfl

abbrev f51r0 : Pc := .reg [
 Qd 0 2 (.alloc 44 [(.t (.i .i64 0)), (.t (.i .i64 0)), (.t (.i .i64 0)), (.t (.i .i64 0)), (.t (.i .i64 0)), (.t (.i .i64 0)), (.t (.i .i64 0)), (.t (.i .i64 0)), (.t (.i .i64 0)), (.t (.i .i64 0)), .nl]),
 Qd 1 3 (.mv (kz 0))] [0, 2] []
abbrev f51r1 : Pc := .reg [
 Qd 0 10 (.mv (tm 0)),
 Qd 1 11 (.lenS (tm 10)),
 Qd 2 12 (.bin .lss (tm 11) (kz 52)),
 Qd 3 13 (.mv (tm 12)),
 Gf 4 14 13 (.mv (tm 0)),
 Gf 5 15 13 (.call 87 [(tm 14), (kz 0)]),
 Gf 6 16 13 (.mv (tm 0)),
 Gf 7 17 13 (.lenS (tm 16)),
 Gf 8 18 13 (.bin .sub (tm 17) (kz 4)),
 Gf 9 19 13 (.bin .neq (tm 15) (tm 18)),
 Qd 10 20 (.pick (tm 13) kT (tm 19)),
 Qd 11 21 (.mv (tm 20)),
 Gf 12 22 21 (.mv (tm 0)),
 Gf 13 23 21 (.lenS (tm 22)),
 Gf 14 24 21 (.bin .rem (tm 23) (kz 4)),
 Gf 15 25 21 (.bin .neq (tm 24) (kz 0)),
 Qd 16 26 (.pick (tm 21) kT (tm 25))] [0, 2, 26] []
abbrev f51r2 : Pc := .reg [
 Qd 0 27 (.build [(.t (.i .i64 0)), (.t (.i .i64 0)), (.t (.i .i64 0)), (.t (.i .i64 0)), (.t (.i .i64 0)), (.t (.i .i64 0)), (.t (.i .i64 0)), (.t (.i .i64 0)), (.t (.i .i64 0)), (.t (.i .i64 0)), .nl] []),
 Qn 1 (.store 11 (tm 2) (tm 27)),
 Qd 2 3 (.mv (kz 2))] [2, 3] []
abbrev f51r3 : Pc := .reg [
 Qd 0 28 (.mv (tm 0)),
 Qd 1 29 (.lenS (tm 28)),
 Qd 2 30 (.bin .quo (tm 29) (kz 4)),
 Qd 3 31 (.bin .sub (tm 30) (kz 1)),
 Qd 4 4 (.mv (tm 31))] [0, 2, 4] []
abbrev f51r4 : Pc := .reg [
 Qd 0 32 (.mv (tm 0)),
 Qd 1 33 (.mv (tm 4)),
 Qd 2 34 (.callq 87 [(tm 32), (tm 33)]),
 Qd 3 35 (.mv (tm 0)),
 Qd 4 36 (.mv (tm 4)),
 Qd 5 37 (.bin .mul (kz 4) (tm 36)),
 Qd 6 38 (.slS (tm 35) (some (kz 4)) (some (tm 37))),
 Qd 7 39 (.callq 88 [(tm 38)]),
 Qd 8 40 (.bin .neq (tm 34) (tm 39))] [0, 2, 4, 40] []
abbrev f51r5 : Pc := .reg [
 Qd 0 41 (.build [(.t (.i .i64 0)), (.t (.i .i64 0)), (.t (.i .i64 0)), (.t (.i .i64 0)), (.t (.i .i64 0)), (.t (.i .i64 0)), (.t (.i .i64 0)), (.t (.i .i64 0)), (.t (.i .i64 0)), (.t (.i .i64 0)), .nl] []),
 Qn 1 (.store 11 (tm 2) (tm 41)),
 Qd 2 3 (.mv (kz 9))] [2, 3] []
abbrev f51r6 : Pc := .reg [
 Qd 0 42 (.mv (tm 4)),
 Qd 1 43 (.mks 3 1 8 [(.i .i64 0)] (tm 42) (tm 42)),
 Qd 2 5 (.mv (tm 43))] [0, 2, 5] []
abbrev f51r7 : Pc := .reg [
 Qd 0 44 (.mv (tm 5)),
 Qd 1 45 (.lenL (tm 44)),
 Qd 2 46 (.mv (kz 0))] [0, 2, 5, 45, 46] []
abbrev f51r8 : Pc := .reg [
 Qd 0 47 (.bin .lss (tm 46) (tm 45))] [0, 2, 5, 45, 46, 47] []
abbrev f51r9 : Pc := .reg [
 Qd 0 48 (.mv (tm 46)),
 Qd 1 6 (.mv (tm 48))] [0, 2, 5, 6, 45, 46] []
abbrev f51r10 : Pc := .reg [
 Qd 0 49 (.mv (tm 5)),
 Qd 1 50 (.mv (tm 6)),
 Qd 2 51 (.mv (tm 0)),
 Qd 3 52 (.mv (tm 6)),
 Qd 4 53 (.call 87 [(tm 51), (tm 52)]),
 Qd 5 54 (.ixS 1 (tm 49) (tm 50)),
 Qn 6 (.store 1 (tm 54) (tm 53))] [0, 2, 5, 45, 46] []
abbrev f51r11 : Pc := .reg [
 Qd 0 55 (.bin .add (tm 46) (kz 1)),
 Qd 1 46 (.mv (tm 55))] [0, 2, 5, 45, 46] []
def f51l0 : Pc := (.seq f51r8 (.seq (.cond (tm 47) .skip (.exit 0)) (.seq (.block 1 (.seq f51r9 f51r10)) f51r11)))
theorem f51l0e (C : Cfg) (s : St) : evL C f51l0 s = evL C (.seq f51r8 (.seq (.cond (tm 47) .skip (.exit 0)) (.seq (.block 1 (.seq f51r9 f51r10)) f51r11))) s := rfl
abbrev f51r12 : Pc := .reg [
 Qd 0 56 (.mv (tm 5)),
 Qd 1 57 (.ixS 1 (tm 56) (kz 1)),
 Qd 2 58 (.load false 1 (tm 57)),
 Qd 3 59 (.mv (tm 5)),
 Qd 4 60 (.ixS 1 (tm 59) (kz 2)),
 Qd 5 61 (.load false 1 (tm 60)),
 Qd 6 62 (.mv (tm 5)),
 Qd 7 63 (.ixS 1 (tm 62) (kz 3)),
 Qd 8 64 (.load false 1 (tm 63)),
 Qd 9 65 (.mv (tm 5)),
 Qd 10 66 (.ixS 1 (tm 65) (kz 4)),
 Qd 11 67 (.load false 1 (tm 66)),
 Qd 12 68 (.mv (tm 5)),
 Qd 13 69 (.ixS 1 (tm 68) (kz 5)),
 Qd 14 70 (.load false 1 (tm 69)),
 Qd 15 71 (.mv (tm 5)),
 Qd 16 72 (.ixS 1 (tm 71) (kz 6)),
 Qd 17 73 (.load false 1 (tm 72)),
 Qd 18 74 (.mv (tm 5)),
 Qd 19 75 (.ixS 1 (tm 74) (kz 7)),
 Qd 20 76 (.load false 1 (tm 75)),
 Qd 21 77 (.mv (tm 5)),
 Qd 22 78 (.ixS 1 (tm 77) (kz 8)),
 Qd 23 79 (.load false 1 (tm 78)),
 Qd 24 80 (.mv (tm 5)),
 Qd 25 81 (.ixS 1 (tm 80) (kz 9)),
 Qd 26 82 (.load false 1 (tm 81)),
 Qd 27 83 (.mv (tm 5)),
 Qd 28 84 (.ixS 1 (tm 83) (kz 10)),
 Qd 29 85 (.load false 1 (tm 84)),
 Qd 30 86 (.build [(.t (.i .i64 0)), (.t (.i .i64 0)), (.t (.i .i64 0)), (.t (.i .i64 0)), (.t (.i .i64 0)), (.t (.i .i64 0)), (.t (.i .i64 0)), (.t (.i .i64 0)), (.t (.i .i64 0)), (.t (.i .i64 0)), .nl] [(0, 1, (tm 58)), (1, 1, (tm 61)), (2, 1, (tm 64)), (3, 1, (tm 67)), (4, 1, (tm 70)), (5, 1, (tm 73)), (6, 1, (tm 76)), (7, 1, (tm 79)), (8, 1, (tm 82)), (9, 1, (tm 85))]),
 Qd 31 7 (.alloc 44 [(.t (.i .i64 0)), (.t (.i .i64 0)), (.t (.i .i64 0)), (.t (.i .i64 0)), (.t (.i .i64 0)), (.t (.i .i64 0)), (.t (.i .i64 0)), (.t (.i .i64 0)), (.t (.i .i64 0)), (.t (.i .i64 0)), .nl]),
 Qn 32 (.store 11 (tm 7) (tm 86))] [2, 5, 7] []
abbrev f51r13 : Pc := .reg [
 Qd 0 87 (.mv (tm 5)),
 Qd 1 88 (.sls 1 (tm 87) (some (kz 12)) none),
 Qd 2 89 (.lenL (tm 88)),
 Qd 3 90 (.mv (kz 0))] [2, 5, 7, 88, 89, 90] []
abbrev f51r14 : Pc := .reg [
 Qd 0 91 (.bin .lss (tm 90) (tm 89))] [2, 5, 7, 88, 89, 90, 91] []
abbrev f51r15 : Pc := .reg [
 Qd 0 92 (.ixS 1 (tm 88) (tm 90)),
 Qd 1 93 (.load false 1 (tm 92)),
 Qd 2 9 (.mv (tm 93))] [2, 5, 7, 9, 88, 89, 90] []
abbrev f51r16 : Pc := .reg [
 Qd 0 94 (.fad 10 (tm 7)),
 Qd 1 95 (.load false 1 (tm 94)),
 Qd 2 96 (.mv (tm 9)),
 Qd 3 97 (.callq 89 [(tm 96)]),
 Qd 4 98 (.bslF 1 [(tm 97)]),
 Qd 5 99 (.app 3 1 8 (tm 95) (tm 98)),
 Qd 6 100 (.fad 10 (tm 7)),
 Qn 7 (.store 1 (tm 100) (tm 99))] [2, 5, 7, 88, 89, 90] []
abbrev f51r17 : Pc := .reg [
 Qd 0 101 (.bin .add (tm 90) (kz 1)),
 Qd 1 90 (.mv (tm 101))] [2, 5, 7, 88, 89, 90] []
def f51l1 : Pc := (.seq f51r14 (.seq (.cond (tm 91) .skip (.exit 2)) (.seq (.block 3 (.seq f51r15 f51r16)) f51r17)))
theorem f51l1e (C : Cfg) (s : St) : evL C f51l1 s = evL C (.seq f51r14 (.seq (.cond (tm 91) .skip (.exit 2)) (.seq (.block 3 (.seq f51r15 f51r16)) f51r17))) s := rfl
abbrev f51r18 : Pc := .reg [
 Qd 0 102 (.mv (tm 5)),
 Qd 1 103 (.ixS 1 (tm 102) (kz 11)),
 Qd 2 104 (.load false 1 (tm 103)),
 Qd 3 105 (.fad 10 (tm 7)),
 Qd 4 106 (.load false 1 (tm 105)),
 Qd 5 107 (.lenL (tm 106)),
 Qd 6 108 (.bin .neq (tm 104) (tm 107)),
 Qd 7 109 (.mv (tm 108)),
 Gf 8 110 109 (.load true 11 (tm 7)),
 Gf 9 111 109 (.callq 90 [(tm 110)]),
 Gf 10 112 109 (.un .not (tm 111)),
 Qd 11 113 (.pick (tm 109) kT (tm 112))] [2, 7, 113] [43]
abbrev f51r19 : Pc := .reg [
 Qd 0 114 (.build [(.t (.i .i64 0)), (.t (.i .i64 0)), (.t (.i .i64 0)), (.t (.i .i64 0)), (.t (.i .i64 0)), (.t (.i .i64 0)), (.t (.i .i64 0)), (.t (.i .i64 0)), (.t (.i .i64 0)), (.t (.i .i64 0)), .nl] []),
 Qn 1 (.store 11 (tm 2) (tm 114)),
 Qd 2 3 (.mv (kz 2))] [2, 3] [7]
abbrev f51r20 : Pc := .reg [
 Qd 0 115 (.load true 11 (tm 7)),
 Qn 1 (.store 11 (tm 2) (tm 115)),
 Qd 2 3 (.mv (kz 0))] [2, 3] [7]
abbrev f51b : Pc := (.seq f51r0 (.seq (.seq f51r1 (.cond (tm 26) (.seq f51r2 .ret) .skip)) (.seq f51r3 (.seq (.seq f51r4 (.cond (tm 40) (.seq f51r5 .ret) .skip)) (.seq f51r6 (.seq (.seq f51r7 (.block 0 (.loop f51l0))) (.seq f51r12 (.seq (.seq f51r13 (.block 2 (.loop f51l1))) (.seq (.seq f51r18 (.cond (tm 113) (.seq f51r19 .ret) .skip)) (.seq f51r20 .ret))))))))))
abbrev f51 : Pfn := ⟨1, 116, [.cell 2 true 11, .tmp 3], f51b⟩
def f51K : Array (List Nat) := #[[0, 2], [0, 2, 26], [2, 3], [0, 2, 4], [0, 2, 4, 40], [2, 3], [0, 2, 5], [0, 2, 5, 45, 46], [0, 2, 5, 45, 46, 47], [0, 2, 5, 6, 45, 46], [0, 2, 5, 45, 46], [0, 2, 5, 45, 46], [2, 5, 7], [2, 5, 7, 88, 89, 90], [2, 5, 7, 88, 89, 90, 91], [2, 5, 7, 9, 88, 89, 90], [2, 5, 7, 88, 89, 90], [2, 5, 7, 88, 89, 90], [2, 7, 113], [2, 3], [2, 3]]
def f51H : Array (List Nat) := #[[], [], [], [], [], [], [], [], [], [], [], [], [], [], [], [], [], [], [43], [7], [7]]
def f51A : Ann := ⟨fun r => f51K.getD r [], fun r => f51H.getD r [], fun r i => ([] : List (Nat × Nat)).contains (r, i)⟩
theorem f51C : compF Go.Proofs.Tryz.prog f51A 51 = some f51 := by kernel_rfl

abbrev f52r0 : Pc := .reg [
 Qd 0 3 (.box 44 11 (tm 1))] [0, 3] []
abbrev f52r1 : Pc := .reg [
 Qd 0 5 (.fad 0 (tm 3)),
 Qd 1 6 (.load false 1 (tm 5)),
 Qd 2 7 (.bin .neq (tm 6) (kz 2)),
 Qd 3 8 (.mv (tm 7)),
 Gf 4 9 8 (.fad 4 (tm 3)),
 Gf 5 10 8 (.load false 1 (tm 9)),
 Gf 6 11 8 (.bin .neq (tm 10) (kz 1)),
 Qd 7 12 (.pick (tm 8) kT (tm 11)),
 Qd 8 13 (.mv (tm 12)),
 Gf 9 14 13 (.fad 5 (tm 3)),
 Gf 10 15 13 (.load false 1 (tm 14)),
 Gf 11 16 13 (.mv (tm 0)),
 Gf 12 17 13 (.nchk (tm 16)),
 Gf 13 18 13 (.fad 11 (tm 17)),
 Gf 14 19 13 (.load false 1 (tm 18)),
 Gf 15 20 13 (.bin .neq (tm 15) (tm 19)),
 Qd 16 21 (.pick (tm 13) kT (tm 20)),
 Qd 17 22 (.mv (tm 21)),
 Gf 18 23 22 (.fad 10 (tm 3)),
 Gf 19 24 22 (.load false 1 (tm 23)),
 Gf 20 25 22 (.lenL (tm 24)),
 Gf 21 26 22 (.mv (tm 0)),
 Gf 22 27 22 (.nchk (tm 26)),
 Gf 23 28 22 (.fad 0 (tm 27)),
 Gf 24 29 22 (.fad 0 (tm 28)),
 Gf 25 30 22 (.load false 1 (tm 29)),
 Gf 26 31 22 (.bin .neq (tm 25) (tm 30)),
 Qd 27 32 (.pick (tm 22) kT (tm 31)),
 Qd 28 33 (.mv (tm 32)),
 Gf 29 34 33 (.mv (tm 0)),
 Gf 30 35 33 (.nchk (tm 34)),
 Gf 31 36 33 (.fad 11 (tm 35)),
 Gf 32 37 33 (.load false 1 (tm 36)),
 Gf 33 38 33 (.mv (tm 0)),
 Gf 34 39 33 (.nchk (tm 38)),
 Gf 35 40 33 (.fad 0 (tm 39)),
 Gf 36 41 33 (.fad 1 (tm 40)),
 Gf 37 42 33 (.load false 1 (tm 41)),
 Gf 38 43 33 (.lenL (tm 42)),
 Gf 39 44 33 (.bin .geq (tm 37) (tm 43)),
 Qd 40 45 (.pick (tm 33) kT (tm 44))] [0, 3, 45] []
abbrev f52r2 : Pc := .reg [
 Qd 0 46 (.mv (tm 0)),
 Qd 1 47 (.nchk (tm 46)),
 Qd 2 48 (.fad 12 (tm 47)),
 Qd 3 49 (.load false 1 (tm 48)),
 Qd 4 50 (.mkfn 92 [(tm 3)]),
 Qd 5 51 (.call 91 [(tm 49), (tm 50)]),
 Qd 6 4 (.mv (tm 51))] [0, 3, 4] []
abbrev f52r3 : Pc := .reg [
 Qd 0 52 (.mv (tm 4)),
 Qd 1 53 (.bin .lss (tm 52) (kz 0)),
 Qd 2 54 (.mv (tm 53)),
 Gf 3 55 54 (.mv (tm 0)),
 Gf 4 56 54 (.nchk (tm 55)),
 Gf 5 57 54 (.fad 14 (tm 56)),
 Gf 6 58 54 (.load false 1 (tm 57)),
 Gf 7 59 54 (.mv (tm 4)),
 Gf 8 60 54 (.ixS 1 (tm 58) (tm 59)),
 Gf 9 61 54 (.load false 1 (tm 60)),
 Qd 10 62 (.pick (tm 54) kT (tm 61))] [0, 3, 4, 62] []
abbrev f52r4 : Pc := .reg [
 Qd 0 63 (.mv (tm 0)),
 Qd 1 64 (.nchk (tm 63)),
 Qd 2 65 (.fad 13 (tm 64)),
 Qd 3 66 (.load false 1 (tm 65)),
 Qd 4 67 (.mv (tm 4)),
 Qd 5 68 (.mv (tm 0)),
 Qd 6 69 (.nchk (tm 68)),
 Qd 7 70 (.fad 14 (tm 69)),
 Qd 8 71 (.load false 1 (tm 70)),
 Qd 9 72 (.mv (tm 4)),
 Qd 10 73 (.fad 10 (tm 3)),
 Qd 11 74 (.load false 1 (tm 73)),
 Qd 12 75 (.ixS 1 (tm 66) (tm 67)),
 Qn 13 (.store 1 (tm 75) (tm 74)),
 Qd 14 76 (.ixS 1 (tm 71) (tm 72)),
 Qn 15 (.store 1 (tm 76) kT)] [0] []
abbrev f52r5 : Pc := .reg [
 Qd 0 77 (.mv (tm 0)),
 Qd 1 78 (.call 37 [(tm 77)])] [] []
abbrev f52b : Pc := (.seq f52r0 (.seq (.seq f52r1 (.cond (tm 45) .ret .skip)) (.seq f52r2 (.seq (.seq f52r3 (.cond (tm 62) .ret .skip)) (.seq f52r4 f52r5)))))
abbrev f52 : Pfn := ⟨2, 79, [], f52b⟩
def f52K : Array (List Nat) := #[[0, 3], [0, 3, 45], [0, 3, 4], [0, 3, 4, 62], [0], []]
def f52H : Array (List Nat) := #[[], [], [], [], [], []]
def f52A : Ann := ⟨fun r => f52K.getD r [], fun r => f52H.getD r [], fun r i => ([] : List (Nat × Nat)).contains (r, i)⟩
theorem f52C : compF Go.Proofs.Tryz.prog f52A 52 = some f52 := by kernel_rfl

abbrev f53r0 : Pc := .reg [
 Qd 0 5 (.box 24 2 (tm 0)),
 Qd 1 6 (.box 27 2 (tm 1)),
 Qd 2 9 (.box 44 11 (tm 4)),
 Qd 3 10 (.nilv 165 5),
 Qd 4 11 (.alloc 44 [(.t (.i .i64 0)), (.t (.i .i64 0)), (.t (.i .i64 0)), (.t (.i .i64 0)), (.t (.i .i64 0)), (.t (.i .i64 0)), (.t (.i .i64 0)), (.t (.i .i64 0)), (.t (.i .i64 0)), (.t (.i .i64 0)), .nl]),
 Qd 5 12 (.mv kF)] [2, 3, 5, 6, 9, 11] [10]
abbrev f53r1 : Pc := .reg [
 Qd 0 17 (.load true 2 (tm 5)),
 Qd 1 18 (.load true 2 (tm 6)),
 Qd 2 19 (.mv (tm 2)),
 Qd 3 20 (.load true 11 (tm 9)),
 Qd 4 21 (.call 93 [(tm 17), (tm 18), (tm 19), (tm 20)]),
 Qd 5 22 (.un .not (tm 21))] [2, 3, 5, 6, 9, 11, 22] []
abbrev f53r2 : Pc := .reg [
 Qd 0 23 (.mv (tm 3)),
 Qd 1 24 (.build [(.t (.i .i64 0)), (.t (.i .i64 0)), (.t (.i .i64 0)), (.t (.i .i64 0)), (.t (.i .i64 0)), (.t (.i .i64 0)), (.t (.i .i64 0)), (.t (.i .i64 0)), (.t (.i .i64 0)), (.t (.i .i64 0)), .nl] []),
 Qd 2 10 (.mv (tm 23)),
 Qn 3 (.store 11 (tm 11) (tm 24)),
 Qd 4 12 (.mv kF)] [10, 11, 12] [5, 6, 9]
abbrev f53r3 : Pc := .reg [
 Qd 0 25 (.load true 11 (tm 9)),
 Qd 1 13 (.alloc 44 [(.t (.i .i64 0)), (.t (.i .i64 0)), (.t (.i .i64 0)), (.t (.i .i64 0)), (.t (.i .i64 0)), (.t (.i .i64 0)), (.t (.i .i64 0)), (.t (.i .i64 0)), (.t (.i .i64 0)), (.t (.i .i64 0)), .nl]),
 Qn 2 (.store 11 (tm 13) (tm 25))] [2, 3, 5, 6, 9, 11, 13] []
abbrev f53r4 : Pc := .reg [
 Qd 0 26 (.mv (tm 2)),
 Qd 1 27 (.fad 1 (tm 9)),
 Qd 2 28 (.loadS [9] false 1 (tm 27)),
 Qd 3 29 (.fad 0 (tm 6)),
 Qd 4 30 (.loadS [6] false 1 (tm 29)),
 Qd 5 31 (.fad 0 (tm 13)),
 Qn 6 (.storeS [13] 1 (tm 31) (kz 3)),
 Qd 7 32 (.fad 1 (tm 13)),
 Qn 8 (.storeS [13] 1 (tm 32) (tm 26)),
 Qd 9 33 (.fad 2 (tm 13)),
 Qn 10 (.storeS [13] 1 (tm 33) (tm 28)),
 Qd 11 34 (.fad 9 (tm 13)),
 Qn 12 (.store 1 (tm 34) (tm 30)),
 Qd 13 35 (.fad 10 (tm 13)),
 Qn 14 (.store 1 (tm 35) (.c .nl))] [2, 3, 5, 6, 9, 11, 13] []
abbrev f53r5 : Pc := .reg [
 Qd 0 36 (.fad 9 (tm 9)),
 Qd 1 37 (.load false 1 (tm 36)),
 Qd 2 38 (.fad 0 (tm 6)),
 Qd 3 39 (.load false 1 (tm 38)),
 Qd 4 40 (.bin .neq (tm 37) (tm 39)),
 Qd 5 41 (.mv (tm 40)),
 Gf 6 42 41 (.load true 2 (tm 6)),
 Gf 7 43 41 (.fad 8 (tm 9)),
 Gf 8 44 41 (.load false 1 (tm 43)),
 Gf 9 45 41 (.mv (tm 2)),
 Gf 10 46 41 (.call 57 [(tm 42), (tm 44), (tm 45)]),
 Gf 11 47 41 (.un .not (tm 46)),
 Qd 12 48 (.pick (tm 41) kT (tm 47))] [3, 5, 9, 11, 13, 48] [6]
abbrev f53r6 : Pc := .reg [
 Qd 0 49 (.mv (tm 3)),
 Qd 1 50 (.load true 11 (tm 13)),
 Qd 2 10 (.mv (tm 49)),
 Qn 3 (.store 11 (tm 11) (tm 50)),
 Qd 4 12 (.mv kT)] [10, 11, 12] [5, 9, 13]
abbrev f53r7 : Pc := .reg [
 Qd 0 51 (.fad 4 (tm 9)),
 Qd 1 52 (.load false 1 (tm 51)),
 Qd 2 53 (.fad 5 (tm 9)),
 Qd 3 54 (.load false 1 (tm 53)),
 Qd 4 55 (.fad 6 (tm 9)),
 Qd 5 56 (.load false 1 (tm 55)),
 Qd 6 57 (.fad 7 (tm 9)),
 Qd 7 58 (.load false 1 (tm 57)),
 Qd 8 59 (.build [(.t (.i .i64 0)), (.t (.i .i64 0)), (.t (.i .i64 0)), (.t (.i .i64 0))] [(0, 1, (tm 52)), (1, 1, (tm 54)), (2, 1, (tm 56)), (3, 1, (tm 58))]),
 Qd 9 14 (.alloc 137 [(.t (.i .i64 0)), (.t (.i .i64 0)), (.t (.i .i64 0)), (.t (.i .i64 0))]),
 Qn 10 (.store 4 (tm 14) (tm 59))] [3, 5, 9, 11, 13, 14] []
abbrev f53r8 : Pc := .reg [
 Qd 0 61 (.mv (tm 3)),
 Qd 1 62 (.load true 4 (tm 14)),
 Qd 2 63 (.call 94 [(tm 61), (tm 62)]),
 Qd 3 60 (.mv (tm 63)),
 Qd 4 64 (.ext 0 (tm 60)),
 Qd 5 65 (.ext 1 (tm 60)),
 Qd 6 15 (.mv (tm 64)),
 Qd 7 16 (.mv (tm 65))] [3, 5, 9, 11, 13, 14, 15, 16] []
abbrev f53r9 : Pc := .reg [
 Qd 0 66 (.mv (tm 16)),
 Qd 1 67 (.un .not (tm 66))] [3, 5, 9, 11, 13, 14, 15, 67] []
abbrev f53r10 : Pc := .reg [
 Qd 0 69 (.fad 1 (tm 5)),
 Qd 1 70 (.load false 1 (tm 69)),
 Qd 2 71 (.fad 5 (tm 9)),
 Qd 3 72 (.load false 1 (tm 71)),
 Qd 4 73 (.ixS 3 (tm 70) (tm 72)),
 Qd 5 74 (.fad 1 (tm 73)),
 Qd 6 75 (.load false 1 (tm 74)),
 Qd 7 76 (.fad 8 (tm 9)),
 Qd 8 77 (.load false 1 (tm 76)),
 Qd 9 78 (.ixS 2 (tm 75) (tm 77)),
 Qd 10 79 (.load true 2 (tm 78)),
 Qd 11 80 (.fad 10 (tm 9)),
 Qd 12 81 (.load false 1 (tm 80)),
 Qd 13 82 (.callq 95 [(tm 79), (tm 81)]),
 Qd 14 68 (.mv (tm 82)),
 Qd 15 83 (.ext 0 (tm 68)),
 Qd 16 84 (.ext 1 (tm 68)),
 Qd 17 15 (.mv (tm 83))] [3, 11, 13, 14, 15] [5, 9]
abbrev f53r11 : Pc := .reg [
 Qd 0 86 (.mv (tm 3)),
 Qd 1 87 (.load true 4 (tm 14)),
 Qd 2 88 (.mv (tm 15)),
 Qd 3 89 (.call 96 [(tm 86), (tm 87), (tm 88)]),
 Qd 4 85 (.mv (tm 89)),
 Qd 5 90 (.ext 0 (tm 85)),
 Qd 6 91 (.ext 1 (tm 85)),
 Qd 7 3 (.mv (tm 90))] [3, 11, 13, 15] [14]
abbrev f53r12 : Pc := .reg [
 Qd 0 92 (.mv (tm 15)),
 Qd 1 93 (.fad 0 (tm 13)),
 Qn 2 (.store 1 (tm 93) (kz 2)),
 Qd 3 94 (.fad 10 (tm 13)),
 Qn 4 (.store 1 (tm 94) (tm 92))] [3, 11, 13] [5, 9, 14]
abbrev f53r13 : Pc := .reg [
 Qd 0 95 (.mv (tm 3)),
 Qd 1 96 (.load true 11 (tm 13)),
 Qd 2 10 (.mv (tm 95)),
 Qn 3 (.store 11 (tm 11) (tm 96)),
 Qd 4 12 (.mv kT)] [10, 11, 12] [13]
abbrev f53b : Pc := (.seq f53r0 (.seq (.seq f53r1 (.cond (tm 22) (.seq f53r2 .ret) .skip)) (.seq f53r3 (.seq f53r4 (.seq (.seq f53r5 (.cond (tm 48) (.seq f53r6 .ret) .skip)) (.seq f53r7 (.seq f53r8 (.seq (.seq f53r9 (.cond (tm 67) (.seq f53r10 f53r11) .skip)) (.seq f53r12 (.seq f53r13 .ret))))))))))
abbrev f53 : Pfn := ⟨5, 97, [.tmp 10, .cell 11 true 11, .tmp 12], f53b⟩
def f53K : Array (List Nat) := #[[2, 3, 5, 6, 9, 11], [2, 3, 5, 6, 9, 11, 22], [10, 11, 12], [2, 3, 5, 6, 9, 11, 13], [2, 3, 5, 6, 9, 11, 13], [3, 5, 9, 11, 13, 48], [10, 11, 12], [3, 5, 9, 11, 13, 14], [3, 5, 9, 11, 13, 14, 15, 16], [3, 5, 9, 11, 13, 14, 15, 67], [3, 11, 13, 14, 15], [3, 11, 13, 15], [3, 11, 13], [10, 11, 12]]
def f53H : Array (List Nat) := #[[10], [], [5, 6, 9], [], [], [6], [5, 9, 13], [], [], [], [5, 9], [14], [5, 9, 14], [13]]
def f53A : Ann := ⟨fun r => f53K.getD r [], fun r => f53H.getD r [], fun r i => ([(4, 2002), (4, 12002), (4, 2004), (4, 9004), (4, 2006), (4, 16006), (4, 2008), (4, 16008), (4, 2010), (4, 16010)] : List (Nat × Nat)).contains (r, i)⟩
theorem f53C : compF Go.Proofs.Tryz.prog f53A 53 = some f53 := by kernel_rfl

abbrev f54r0 : Pc := .reg [
 Qd 0 3 (.box 44 11 (tm 1))] [0, 3] []
abbrev f54r1 : Pc := .reg [
 Qd 0 7 (.load true 11 (tm 3)),
 Qd 1 8 (.call 97 [(tm 7)]),
 Qd 2 6 (.mv (tm 8)),
 Qd 3 9 (.ext 0 (tm 6)),
 Qd 4 10 (.ext 1 (tm 6)),
 Qd 5 4 (.mv (tm 9)),
 Qd 6 5 (.mv (tm 10))] [0, 4, 5] []
abbrev f54r2 : Pc := .reg [
 Qd 0 11 (.mv (tm 5)),
 Qd 1 12 (.bin .eql (tm 11) (kz 0))] [0, 4, 12] []
abbrev f54r3 : Pc := .reg [
 Qd 0 13 (.mv (tm 0)),
 Qd 1 14 (.mv (tm 0)),
 Qd 2 15 (.nchk (tm 14)),
 Qd 3 16 (.fad 9 (tm 15)),
 Qd 4 17 (.load false 1 (tm 16)),
 Qd 5 18 (.mv (tm 4)),
 Qd 6 19 (.call 98 [(tm 17), (tm 18)]),
 Qd 7 20 (.nchk (tm 13)),
 Qd 8 21 (.fad 9 (tm 20)),
 Qn 9 (.store 1 (tm 21) (tm 19))] [] []
abbrev f54b : Pc := (.seq f54r0 (.seq f54r1 (.seq f54r2 (.cond (tm 12) f54r3 .skip))))
abbrev f54 : Pfn := ⟨2, 22, [], f54b⟩
def f54K : Array (List Nat) := #[[0, 3], [0, 4, 5], [0, 4, 12], []]
def f54H : Array (List Nat) := #[[], [], [], []]
def f54A : Ann := ⟨fun r => f54K.getD r [], fun r => f54H.getD r [], fun r i => ([] : List (Nat × Nat)).contains (r, i)⟩
theorem f54C : compF Go.Proofs.Tryz.prog f54A 54 = some f54 := by kernel_rfl

abbrev f55r0 : Pc := .reg [
 Qd 0 4 (.mv kF)] [0, 1] []
abbrev f55r1 : Pc := .reg [
 Qd 0 6 (.mv (tm 0)),
 Qd 1 7 (.lenL (tm 6)),
 Qd 2 8 (.mv (tm 1)),
 Qd 3 9 (.lenL (tm 8)),
 Qd 4 10 (.bin .neq (tm 7) (tm 9))] [0, 1, 10] []
abbrev f55r2 : Pc := .reg [
 Qd 0 4 (.mv kF)] [4] []
abbrev f55r3 : Pc := .reg [
 Qd 0 5 (.mv (kz 0))] [0, 1, 5] []
abbrev f55r4 : Pc := .reg [
 Qd 0 11 (.mv (tm 5)),
 Qd 1 12 (.mv (tm 0)),
 Qd 2 13 (.lenL (tm 12)),
 Qd 3 14 (.bin .lss (tm 11) (tm 13))] [0, 1, 5, 14] []
abbrev f55r6 : Pc := .reg [
 Qd 0 17 (.mv (tm 0)),
 Qd 1 18 (.mv (tm 5)),
 Qd 2 19 (.ixS 1 (tm 17) (tm 18)),
 Qd 3 20 (.load false 1 (tm 19)),
 Qd 4 21 (.mv (tm 1)),
 Qd 5 22 (.mv (tm 5)),
 Qd 6 23 (.ixS 1 (tm 21) (tm 22)),
 Qd 7 24 (.load false 1 (tm 23)),
 Qd 8 25 (.bin .neq (tm 20) (tm 24))] [0, 1, 5, 25] []
abbrev f55r7 : Pc := .reg [
 Qd 0 4 (.mv kF)] [4] []
abbrev f55r5 : Pc := .reg [
 Qd 0 15 (.mv (tm 5)),
 Qd 1 16 (.bin .add (tm 15) (kz 1)),
 Qd 2 5 (.mv (tm 16))] [0, 1, 5] []
def f55l0 : Pc := (.seq (.seq f55r4 (.cond (tm 14) .skip (.exit 0))) (.seq (.block 1 (.seq f55r6 (.cond (tm 25) (.seq f55r7 .ret) .skip))) f55r5))
theorem f55l0e (C : Cfg) (s : St) : evL C f55l0 s = evL C (.seq (.seq f55r4 (.cond (tm 14) .skip (.exit 0))) (.seq (.block 1 (.seq f55r6 (.cond (tm 25) (.seq f55r7 .ret) .skip))) f55r5)) s := rfl
abbrev f55r8 : Pc := .reg [
 Qd 0 4 (.mv kT)] [4] []
abbrev f55b : Pc := (.seq f55r0 (.seq (.seq f55r1 (.cond (tm 10) (.seq f55r2 .ret) .skip)) (.seq (.seq f55r3 (.block 0 (.loop f55l0))) (.seq f55r8 .ret))))
abbrev f55 : Pfn := ⟨2, 26, [.tmp 4], f55b⟩
def f55K : Array (List Nat) := #[[0, 1], [0, 1, 10], [4], [0, 1, 5], [0, 1, 5, 14], [0, 1, 5], [0, 1, 5, 25], [4], [4]]
def f55H : Array (List Nat) := #[[], [], [], [], [], [], [], [], []]
def f55A : Ann := ⟨fun r => f55K.getD r [], fun r => f55H.getD r [], fun r i => ([] : List (Nat × Nat)).contains (r, i)⟩
theorem f55C : compF Go.Proofs.Tryz.prog f55A 55 = some f55 := by kernel_rfl

abbrev f56r0 : Pc := .reg [
 Qd 0 3 (.box 27 2 (tm 0)),
 Qd 1 6 (.mv kF)] [1, 2, 3] []
abbrev f56r1 : Pc := .reg [
 Qd 0 7 (.load true 2 (tm 3)),
 Qd 1 8 (.call 32 [(tm 7)]),
 Qd 2 9 (.mv (tm 8)),
 Gt 3 10 9 (.mv (tm 1)),
 Gt 4 11 9 (.bin .geq (tm 10) (kz 0)),
 Qd 5 12 (.pick (tm 9) (tm 11) kF),
 Qd 6 13 (.mv (tm 12)),
 Gt 7 14 13 (.mv (tm 1)),
 Gt 8 15 13 (.fad 1 (tm 3)),
 Gt 9 16 13 (.load false 1 (tm 15)),
 Gt 10 17 13 (.lenL (tm 16)),
 Gt 11 18 13 (.bin .lss (tm 14) (tm 17)),
 Qd 12 19 (.pick (tm 13) (tm 18) kF),
 Qd 13 20 (.mv (tm 19)),
 Gt 14 21 20 (.mv (tm 2)),
 Gt 15 22 20 (.bin .geq (tm 21) (kz 1)),
 Qd 16 23 (.pick (tm 20) (tm 22) kF),
 Qd 17 24 (.mv (tm 23)),
 Gt 18 25 24 (.mv (tm 2)),
 Gt 19 26 24 (.bin .leq (tm 25) (kz 4)),
 Qd 20 27 (.pick (tm 24) (tm 26) kF),
 Qd 21 28 (.mv (tm 27)),
 Gt 22 29 28 (.fad 0 (tm 3)),
 Gt 23 30 28 (.load false 1 (tm 29)),
 Gt 24 31 28 (.bin .lss (tm 30) (kz 2147483647)),
 Qd 25 32 (.pick (tm 28) (tm 31) kF),
 Qd 26 6 (.mv (tm 32))] [6] [3]
abbrev f56b : Pc := (.seq f56r0 (.seq f56r1 .ret))
abbrev f56 : Pfn := ⟨3, 33, [.tmp 6], f56b⟩
def f56K : Array (List Nat) := #[[1, 2, 3], [6]]
def f56H : Array (List Nat) := #[[], [3]]
def f56A : Ann := ⟨fun r => f56K.getD r [], fun r => f56H.getD r [], fun r i => ([] : List (Nat × Nat)).contains (r, i)⟩
theorem f56C : compF Go.Proofs.Tryz.prog f56A 56 = some f56 := by kernel_rfl

abbrev f57r0 : Pc := .reg [
 Qd 0 3 (.box 27 2 (tm 0)),
 Qd 1 6 (.mv kF)] [1, 2, 3] []
abbrev f57r1 : Pc := .reg [
 Qd 0 7 (.mv (tm 1)),
 Qd 1 8 (.bin .geq (tm 7) (kz 0)),
 Qd 2 9 (.mv (tm 8)),
 Gt 3 10 9 (.mv (tm 1)),
 Gt 4 11 9 (.fad 1 (tm 3)),
 Gt 5 12 9 (.load false 1 (tm 11)),
 Gt 6 13 9 (.lenL (tm 12)),
 Gt 7 14 9 (.bin .lss (tm 10) (tm 13)),
 Qd 8 15 (.pick (tm 9) (tm 14) kF),
 Qd 9 16 (.mv (tm 15)),
 Gt 10 17 16 (.fad 1 (tm 3)),
 Gt 11 18 16 (.load false 1 (tm 17)),
 Gt 12 19 16 (.mv (tm 1)),
 Gt 13 20 16 (.ixS 1 (tm 18) (tm 19)),
 Gt 14 21 16 (.load false 1 (tm 20)),
 Gt 15 22 16 (.mv (tm 2)),
 Gt 16 23 16 (.call 99 [(tm 21), (tm 22)]),
 Qd 17 24 (.pick (tm 16) (tm 23) kF),
 Qd 18 6 (.mv (tm 24))] [6] [3]
abbrev f57b : Pc := (.seq f57r0 (.seq f57r1 .ret))
abbrev f57 : Pfn := ⟨3, 25, [.tmp 6], f57b⟩
def f57K : Array (List Nat) := #[[1, 2, 3], [6]]
def f57H : Array (List Nat) := #[[], [3]]
def f57A : Ann := ⟨fun r => f57K.getD r [], fun r => f57H.getD r [], fun r i => ([] : List (Nat × Nat)).contains (r, i)⟩
theorem f57C : compF Go.Proofs.Tryz.prog f57A 57 = some f57 := by kernel_rfl

abbrev f58r0 : Pc := .reg [
 Qd 0 2 (.nilv 3 1)] [0] [2, 5, 7]
abbrev f58r1 : Pc := .reg [
 Qd 0 3 (.mv (tm 0)),
 Qd 1 4 (.isnilS false (tm 3))] [0, 4] []
abbrev f58r2 : Pc := .reg [
 Qd 0 2 (.nilv 3 1)] [2] []
abbrev f58r3 : Pc := .reg [
 Qd 0 5 (.bslO 3 1 []),
 Qd 1 6 (.mv (tm 0)),
 Qd 2 7 (.app 3 1 8 (tm 5) (tm 6)),
 Qd 3 2 (.mv (tm 7))] [2] []
abbrev f58b : Pc := (.seq f58r0 (.seq (.seq f58r1 (.cond (tm 4) (.seq f58r2 .ret) .skip)) (.seq f58r3 .ret)))
abbrev f58 : Pfn := ⟨1, 8, [.tmp 2], f58b⟩
def f58K : Array (List Nat) := #[[0], [0, 4], [2], [2]]
def f58H : Array (List Nat) := #[[2, 5, 7], [], [], []]
def f58A : Ann := ⟨fun r => f58K.getD r [], fun r => f58H.getD r [], fun r i => ([(3, 0), (3, 0)] : List (Nat × Nat)).contains (r, i)⟩
theorem f58C : compF Go.Proofs.Tryz.prog f58A 58 = some f58 := by kernel_rfl

abbrev f60r0 : Pc := .reg [
 Qd 0 3 (.box 27 2 (tm 0)),
 Qd 1 6 (.alloc 27 [(.t (.i .i64 0)), .nl])] [1, 2, 3, 6] []
abbrev f60r1 : Pc := .reg [
 Qd 0 8 (.fad 0 (tm 3)),
 Qd 1 9 (.load false 1 (tm 8)),
 Qd 2 10 (.bin .add (tm 9) (kz 1)),
 Qd 3 11 (.fad 1 (tm 3)),
 Qd 4 12 (.load false 1 (tm 11)),
 Qd 5 13 (.callo 35 [(tm 12)]),
 Qd 6 14 (.build [(.t (.i .i64 0)), .nl] [(0, 1, (tm 10)), (1, 1, (tm 13))]),
 Qd 7 7 (.alloc 27 [(.t (.i .i64 0)), .nl]),
 Qn 8 (.store 2 (tm 7) (tm 14))] [1, 2, 6, 7] [3]
abbrev f60r2 : Pc := .reg [
 Qd 0 15 (.fad 1 (tm 7)),
 Qd 1 16 (.load false 1 (tm 15)),
 Qd 2 17 (.mv (tm 1)),
 Qd 3 18 (.mv (tm 2)),
 Qd 4 19 (.ixS 1 (tm 16) (tm 17)),
 Qn 5 (.store 1 (tm 19) (tm 18))] [6, 7] []
abbrev f60r3 : Pc := .reg [
 Qd 0 20 (.load true 2 (tm 7)),
 Qn 1 (.store 2 (tm 6) (tm 20))] [6] [7]
abbrev f60b : Pc := (.seq f60r0 (.seq f60r1 (.seq f60r2 (.seq f60r3 .ret))))
abbrev f60 : Pfn := ⟨3, 21, [.cell 6 true 2], f60b⟩
def f60K : Array (List Nat) := #[[1, 2, 3, 6], [1, 2, 6, 7], [6, 7], [6]]
def f60H : Array (List Nat) := #[[], [3], [], [7]]
def f60A : Ann := ⟨fun r => f60K.getD r [], fun r => f60H.getD r [], fun r i => ([(1, 5)] : List (Nat × Nat)).contains (r, i)⟩
theorem f60C : compF Go.Proofs.Tryz.prog f60A 60 = some f60 := by kernel_rfl

abbrev f61r0 : Pc := .reg [
 Qd 0 4 (.nilv 3 1)] [0, 1] [4]
abbrev f61r1 : Pc := .reg [
 Qd 0 8 (.mv (tm 0)),
 Qd 1 9 (.mv (tm 1)),
 Qd 2 10 (.call 102 [(tm 8), (tm 9)]),
 Qd 3 5 (.mv (tm 10))] [0, 1, 5] []
abbrev f61r2 : Pc := .reg [
 Qd 0 11 (.mv (tm 5)),
 Qd 1 12 (.bin .eql (tm 11) (kz (-1)))] [0, 1, 5, 12] []
abbrev f61r3 : Pc := .reg [
 Qd 0 13 (.mv (tm 0)),
 Qd 1 4 (.mv (tm 13))] [4] []
abbrev f61r4 : Pc := .reg [
 Qd 0 14 (.mv (tm 5)),
 Qd 1 15 (.bin .add (tm 14) (kz 1)),
 Qd 2 6 (.mv (tm 15))] [0, 1, 5, 6] []
abbrev f61r5 : Pc := .reg [
 Qd 0 16 (.mv (tm 6)),
 Qd 1 17 (.mv (tm 0)),
 Qd 2 18 (.lenL (tm 17)),
 Qd 3 19 (.bin .lss (tm 16) (tm 18))] [0, 1, 5, 6, 19] []
abbrev f61r7 : Pc := .reg [
 Qd 0 22 (.mv (tm 0)),
 Qd 1 23 (.mv (tm 6)),
 Qd 2 24 (.ixS 1 (tm 22) (tm 23)),
 Qd 3 25 (.load false 1 (tm 24)),
 Qd 4 7 (.mv (tm 25))] [0, 1, 5, 6, 7] []
abbrev f61r8 : Pc := .reg [
 Qd 0 26 (.mv (tm 1)),
 Qd 1 27 (.mv (tm 7)),
 Qd 2 28 (.callv (tm 26) [(tm 27)]),
 Qd 3 29 (.un .not (tm 28))] [0, 1, 5, 6, 7, 29] []
abbrev f61r9 : Pc := .reg [
 Qd 0 30 (.mv (tm 0)),
 Qd 1 31 (.mv (tm 5)),
 Qd 2 32 (.mv (tm 7)),
 Qd 3 33 (.ixS 1 (tm 30) (tm 31)),
 Qn 4 (.store 1 (tm 33) (tm 32))] [0, 1, 5, 6] []
abbrev f61r10 : Pc := .reg [
 Qd 0 34 (.mv (tm 5)),
 Qd 1 35 (.bin .add (tm 34) (kz 1)),
 Qd 2 5 (.mv (tm 35))] [0, 1, 5, 6] []
abbrev f61r6 : Pc := .reg [
 Qd 0 20 (.mv (tm 6)),
 Qd 1 21 (.bin .add (tm 20) (kz 1)),
 Qd 2 6 (.mv (tm 21))] [0, 1, 5, 6] []
def f61l0 : Pc := (.seq (.seq f61r5 (.cond (tm 19) .skip (.exit 0))) (.seq (.block 1 (.seq f61r7 (.seq f61r8 (.cond (tm 29) (.seq f61r9 f61r10) .skip)))) f61r6))
theorem f61l0e (C : Cfg) (s : St) : evL C f61l0 s = evL C (.seq (.seq f61r5 (.cond (tm 19) .skip (.exit 0))) (.seq (.block 1 (.seq f61r7 (.seq f61r8 (.cond (tm 29) (.seq f61r9 f61r10) .skip)))) f61r6)) s := rfl
abbrev f61r11 : Pc := .reg [
 Qd 0 36 (.mv (tm 0)),
 Qd 1 37 (.mv (tm 5)),
 Qd 2 38 (.sls 1 (tm 36) (some (tm 37)) none),
 Qn 3 (.clr 1 (tm 38))] [0, 5] []
abbrev f61r12 : Pc := .reg [
 Qd 0 39 (.mv (tm 0)),
 Qd 1 40 (.mv (tm 5)),
 Qd 2 41 (.sls 1 (tm 39) none (some (tm 40))),
 Qd 3 4 (.mv (tm 41))] [4] []
abbrev f61b : Pc := (.seq f61r0 (.seq f61r1 (.seq (.seq f61r2 (.cond (tm 12) (.seq f61r3 .ret) .skip)) (.seq (.seq f61r4 (.block 0 (.loop f61l0))) (.seq f61r11 (.seq f61r12 .ret))))))
abbrev f61 : Pfn := ⟨2, 42, [.tmp 4], f61b⟩
def f61K : Array (List Nat) := #[[0, 1], [0, 1, 5], [0, 1, 5, 12], [4], [0, 1, 5, 6], [0, 1, 5, 6, 19], [0, 1, 5, 6], [0, 1, 5, 6, 7], [0, 1, 5, 6, 7, 29], [0, 1, 5, 6], [0, 1, 5, 6], [0, 5], [4]]
def f61H : Array (List Nat) := #[[4], [], [], [], [], [], [], [], [], [], [], [], []]
def f61A : Ann := ⟨fun r => f61K.getD r [], fun r => f61H.getD r [], fun r i => ([] : List (Nat × Nat)).contains (r, i)⟩
theorem f61C : compF Go.Proofs.Tryz.prog f61A 61 = some f61 := by kernel_rfl

abbrev f62r0 : Pc := .reg [
 Qd 0 3 (.mv kF)] [0, 1] []
abbrev f62r1 : Pc := .reg [
 Qd 0 4 (.mv (tm 0)),
 Qd 1 5 (.load false 1 (tm 1)),
 Qd 2 6 (.bin .eql (tm 4) (tm 5)),
 Qd 3 3 (.mv (tm 6))] [3] []
abbrev f62b : Pc := (.seq f62r0 (.seq f62r1 .ret))
abbrev f62 : Pfn := ⟨2, 7, [.tmp 3], f62b⟩
def f62K : Array (List Nat) := #[[0, 1], [3]]
def f62H : Array (List Nat) := #[[], []]
def f62A : Ann := ⟨fun r => f62K.getD r [], fun r => f62H.getD r [], fun r i => ([] : List (Nat × Nat)).contains (r, i)⟩
theorem f62C : compF Go.Proofs.Tryz.prog f62A 62 = some f62 := by kernel_rfl

abbrev f63r0 : Pc := .reg [
 Qd 0 4 (.mv (kz 0))] [0, 1] []
abbrev f63r1 : Pc := .reg [
 Qd 0 5 (.mv (tm 1)),
 Qd 1 6 (.bin .lss (tm 5) (kz 0)),
 Qd 2 7 (.mv (tm 6)),
 Gf 3 8 7 (.mv (tm 1)),
 Gf 4 9 7 (.mv (tm 0)),
 Gf 5 10 7 (.nchk (tm 9)),
 Gf 6 11 7 (.fad 9 (tm 10)),
 Gf 7 12 7 (.load false 1 (tm 11)),
 Gf 8 13 7 (.lenL (tm 12)),
 Gf 9 14 7 (.bin .geq (tm 8) (tm 13)),
 Qd 10 15 (.pick (tm 7) kT (tm 14))] [0, 1, 15] []
abbrev f63r2 : Pc := .reg [
 Qd 0 4 (.mv (kz 4))] [4] []
abbrev f63r3 : Pc := .reg [
 Qd 0 16 (.mv (tm 0)),
 Qd 1 17 (.mv (tm 0)),
 Qd 2 18 (.nchk (tm 17)),
 Qd 3 19 (.fad 9 (tm 18)),
 Qd 4 20 (.load false 1 (tm 19)),
 Qd 5 21 (.mv (tm 1)),
 Qd 6 22 (.call 103 [(tm 20), (tm 21)]),
 Qd 7 23 (.nchk (tm 16)),
 Qd 8 24 (.fad 9 (tm 23)),
 Qn 9 (.store 1 (tm 24) (tm 22))] [] []
abbrev f63r4 : Pc := .reg [
 Qd 0 4 (.mv (kz 0))] [4] []
abbrev f63b : Pc := (.seq f63r0 (.seq (.seq f63r1 (.cond (tm 15) (.seq f63r2 .ret) .skip)) (.seq f63r3 (.seq f63r4 .ret))))
abbrev f63 : Pfn := ⟨2, 25, [.tmp 4], f63b⟩
def f63K : Array (List Nat) := #[[0, 1], [0, 1, 15], [4], [], [4]]
def f63H : Array (List Nat) := #[[], [], [], [], []]
def f63A : Ann := ⟨fun r => f63K.getD r [], fun r => f63H.getD r [], fun r i => ([] : List (Nat × Nat)).contains (r, i)⟩
theorem f63C : compF Go.Proofs.Tryz.prog f63A 63 = some f63 := by kernel_rfl

abbrev f64r0 : Pc := .reg [
 Qd 0 3 (.box 27 2 (tm 0)),
 Qd 1 6 (.mv (kz 0)),
 Qd 2 7 (.mv kF)] [1, 2, 3] []
abbrev f64r1 : Pc := .reg [
 Qd 0 9 (.load true 2 (tm 3)),
 Qd 1 10 (.call 32 [(tm 9)]),
 Qd 2 11 (.un .not (tm 10)),
 Qd 3 12 (.mv (tm 11)),
 Gf 4 13 12 (.mv (tm 1)),
 Gf 5 14 12 (.bin .lss (tm 13) (kz 0)),
 Qd 6 15 (.pick (tm 12) kT (tm 14)),
 Qd 7 16 (.mv (tm 15)),
 Gf 8 17 16 (.mv (tm 1)),
 Gf 9 18 16 (.fad 1 (tm 3)),
 Gf 10 19 16 (.load false 1 (tm 18)),
 Gf 11 20 16 (.lenL (tm 19)),
 Gf 12 21 16 (.bin .geq (tm 17) (tm 20)),
 Qd 13 22 (.pick (tm 16) kT (tm 21)),
 Qd 14 23 (.mv (tm 22)),
 Gf 15 24 23 (.mv (tm 2)),
 Gf 16 25 23 (.bin .lss (tm 24) (kz 0)),
 Qd 17 26 (.pick (tm 23) kT (tm 25))] [1, 2, 3, 26] []
abbrev f64r2 : Pc := .reg [
 Qd 0 6 (.mv (kz 0)),
 Qd 1 7 (.mv kF)] [6, 7] [3]
abbrev f64r3 : Pc := .reg [
 Qd 0 27 (.fad 1 (tm 3)),
 Qd 1 28 (.load false 1 (tm 27)),
 Qd 2 29 (.mv (tm 1)),
 Qd 3 30 (.ixS 1 (tm 28) (tm 29)),
 Qd 4 31 (.load false 1 (tm 30)),
 Qd 5 8 (.mv (tm 31))] [2, 8] [3]
abbrev f64r4 : Pc := .reg [
 Qd 0 32 (.mv (tm 8)),
 Qd 1 33 (.mv (tm 2)),
 Qd 2 34 (.mv (tm 8)),
 Qd 3 35 (.lenL (tm 34)),
 Qd 4 36 (.bin .rem (tm 33) (tm 35)),
 Qd 5 37 (.ixS 1 (tm 32) (tm 36)),
 Qd 6 38 (.load false 1 (tm 37)),
 Qd 7 6 (.mv (tm 38)),
 Qd 8 7 (.mv kT)] [6, 7] []
abbrev f64b : Pc := (.seq f64r0 (.seq (.seq f64r1 (.cond (tm 26) (.seq f64r2 .ret) .skip)) (.seq f64r3 (.seq f64r4 .ret))))
abbrev f64 : Pfn := ⟨3, 39, [.tmp 6, .tmp 7], f64b⟩
def f64K : Array (List Nat) := #[[1, 2, 3], [1, 2, 3, 26], [6, 7], [2, 8], [6, 7]]
def f64H : Array (List Nat) := #[[], [], [3], [3], []]
def f64A : Ann := ⟨fun r => f64K.getD r [], fun r => f64H.getD r [], fun r i => ([] : List (Nat × Nat)).contains (r, i)⟩
theorem f64C : compF Go.Proofs.Tryz.prog f64A 64 = some f64 := by kernel_rfl

abbrev f65r0 : Pc := .reg [
 Qd 0 2 (.box 53 3 (tm 0)),
 Qd 1 3 (.mv kF)] [1, 2] []
abbrev f65r1 : Pc := .reg [
 Qd 0 4 (.load true 3 (tm 2)),
 Qd 1 5 (.fad 0 (tm 1)),
 Qd 2 6 (.load false 1 (tm 5)),
 Qd 3 7 (.call 66 [(tm 4), (tm 6)]),
 Qd 4 8 (.un .not (tm 7)),
 Qd 5 3 (.mv (tm 8))] [3] [2]
abbrev f65b : Pc := (.seq f65r0 (.seq f65r1 .ret))
abbrev f65 : Pfn := ⟨2, 9, [.tmp 3], f65b⟩
def f65K : Array (List Nat) := #[[1, 2], [3]]
def f65H : Array (List Nat) := #[[], [2]]
def f65A : Ann := ⟨fun r => f65K.getD r [], fun r => f65H.getD r [], fun r i => ([] : List (Nat × Nat)).contains (r, i)⟩
theorem f65C : compF Go.Proofs.Tryz.prog f65A 65 = some f65 := by kernel_rfl

abbrev f66r0 : Pc := .reg [
 Qd 0 2 (.box 53 3 (tm 0)),
 Qd 1 3 (.box 3 1 (tm 1)),
 Qd 2 4 (.mv kF)] [2, 3] []
abbrev f66r1 : Pc := .reg [
 Qd 0 6 (.fad 1 (tm 2)),
 Qd 1 7 (.load false 1 (tm 6)),
 Qd 2 8 (.lenL (tm 7)),
 Qd 3 5 (.mv (tm 8))] [2, 3, 5] []
abbrev f66r2 : Pc := .reg [
 Qd 0 9 (.mv (tm 5)),
 Qd 1 10 (.bin .geq (tm 9) (kz 1)),
 Qd 2 11 (.mv (tm 10)),
 Gt 3 12 11 (.mv (tm 5)),
 Gt 4 13 11 (.bin .leq (tm 12) (kz 8)),
 Qd 5 14 (.pick (tm 11) (tm 13) kF),
 Qd 6 15 (.mv (tm 14)),
 Gt 7 16 15 (.fad 0 (tm 2)),
 Gt 8 17 15 (.load false 1 (tm 16)),
 Gt 9 18 15 (.mv (tm 5)),
 Gt 10 19 15 (.load false 1 (tm 3)),
 Gt 11 20 15 (.call 104 [(tm 17), (tm 18), (tm 19)]),
 Qd 12 21 (.pick (tm 15) (tm 20) kF),
 Qd 13 22 (.mv (tm 21)),
 Gt 14 23 22 (.fad 2 (tm 2)),
 Gt 15 24 22 (.load false 1 (tm 23)),
 Gt 16 25 22 (.bin .geq (tm 24) (kz 1)),
 Qd 17 26 (.pick (tm 22) (tm 25) kF),
 Qd 18 27 (.mv (tm 26)),
 Gt 19 28 27 (.fad 2 (tm 2)),
 Gt 20 29 27 (.load false 1 (tm 28)),
 Gt 21 30 27 (.bin .leq (tm 29) (kz 32)),
 Qd 22 31 (.pick (tm 27) (tm 30) kF),
 Qd 23 32 (.mv (tm 31)),
 Gt 24 33 32 (.fad 1 (tm 2)),
 Gt 25 34 32 (.load false 1 (tm 33)),
 Gt 26 35 32 (.mkfn 106 [(tm 3)]),
 Gt 27 36 32 (.call 105 [(tm 34), (tm 35)]),
 Gt 28 37 32 (.un .not (tm 36)),
 Qd 29 38 (.pick (tm 32) (tm 37) kF),
 Qd 30 4 (.mv (tm 38))] [4] [2, 3]
abbrev f66b : Pc := (.seq f66r0 (.seq f66r1 (.seq f66r2 .ret)))
abbrev f66 : Pfn := ⟨2, 39, [.tmp 4], f66b⟩
def f66K : Array (List Nat) := #[[2, 3], [2, 3, 5], [4]]
def f66H : Array (List Nat) := #[[], [], [2, 3]]
def f66A : Ann := ⟨fun r => f66K.getD r [], fun r => f66H.getD r [], fun r i => ([] : List (Nat × Nat)).contains (r, i)⟩
theorem f66C : compF Go.Proofs.Tryz.prog f66A 66 = some f66 := by kernel_rfl

abbrev f67r0 : Pc := .reg [
 Qd 0 4 (.mv kF)] [0, 1] []
abbrev f67r1 : Pc := .reg [
 Qd 0 5 (.mv (tm 0)),
 Qd 1 6 (.mv (tm 1)),
 Qd 2 7 (.call 108 [(tm 5), (tm 6)]),
 Qd 3 8 (.bin .geq (tm 7) (kz 0)),
 Qd 4 4 (.mv (tm 8))] [4] []
abbrev f67b : Pc := (.seq f67r0 (.seq f67r1 .ret))
abbrev f67 : Pfn := ⟨2, 9, [.tmp 4], f67b⟩
def f67K : Array (List Nat) := #[[0, 1], [4]]
def f67H : Array (List Nat) := #[[], []]
def f67A : Ann := ⟨fun r => f67K.getD r [], fun r => f67H.getD r [], fun r i => ([] : List (Nat × Nat)).contains (r, i)⟩
theorem f67C : compF Go.Proofs.Tryz.prog f67A 67 = some f67 := by kernel_rfl

abbrev f68r0 : Pc := .reg [
 Qd 0 3 (.mv kF)] [0, 1] []
abbrev f68r1 : Pc := .reg [
 Qd 0 4 (.mv (tm 0)),
 Qd 1 5 (.lenL (tm 4)),
 Qd 2 6 (.fad 0 (tm 1)),
 Qd 3 7 (.load false 1 (tm 6)),
 Qd 4 8 (.bin .neq (tm 5) (tm 7)),
 Qd 5 9 (.mv (tm 8)),
 Gf 6 10 9 (.mv (tm 0)),
 Gf 7 11 9 (.call 69 [(tm 10), (.c (.fn 70 []))]),
 Qd 8 12 (.pick (tm 9) kT (tm 11)),
 Qd 9 3 (.mv (tm 12))] [3] []
abbrev f68b : Pc := (.seq f68r0 (.seq f68r1 .ret))
abbrev f68 : Pfn := ⟨2, 13, [.tmp 3], f68b⟩
def f68K : Array (List Nat) := #[[0, 1], [3]]
def f68H : Array (List Nat) := #[[], []]
def f68A : Ann := ⟨fun r => f68K.getD r [], fun r => f68H.getD r [], fun r i => ([] : List (Nat × Nat)).contains (r, i)⟩
theorem f68C : compF Go.Proofs.Tryz.prog f68A 68 = some f68 := by kernel_rfl

abbrev f69r0 : Pc := .reg [
 Qd 0 4 (.mv kF)] [0, 1] []
abbrev f69r1 : Pc := .reg [
 Qd 0 5 (.mv (tm 0)),
 Qd 1 6 (.mv (tm 1)),
 Qd 2 7 (.call 102 [(tm 5), (tm 6)]),
 Qd 3 8 (.bin .geq (tm 7) (kz 0)),
 Qd 4 4 (.mv (tm 8))] [4] []
abbrev f69b : Pc := (.seq f69r0 (.seq f69r1 .ret))
abbrev f69 : Pfn := ⟨2, 9, [.tmp 4], f69b⟩
def f69K : Array (List Nat) := #[[0, 1], [4]]
def f69H : Array (List Nat) := #[[], []]
def f69A : Ann := ⟨fun r => f69K.getD r [], fun r => f69H.getD r [], fun r i => ([] : List (Nat × Nat)).contains (r, i)⟩
theorem f69C : compF Go.Proofs.Tryz.prog f69A 69 = some f69 := by kernel_rfl

abbrev f70r0 : Pc := .reg [
 Qd 0 2 (.mv kF)] [0] []
abbrev f70r1 : Pc := .reg [
 Qd 0 3 (.mv (tm 0)),
 Qd 1 4 (.call 71 [(tm 3)]),
 Qd 2 5 (.mv (tm 0)),
 Qd 3 6 (.bin .neq (tm 4) (tm 5)),
 Qd 4 2 (.mv (tm 6))] [2] []
abbrev f70b : Pc := (.seq f70r0 (.seq f70r1 .ret))
abbrev f70 : Pfn := ⟨1, 7, [.tmp 2], f70b⟩
def f70K : Array (List Nat) := #[[0], [2]]
def f70H : Array (List Nat) := #[[], []]
def f70A : Ann := ⟨fun r => f70K.getD r [], fun r => f70H.getD r [], fun r i => ([] : List (Nat × Nat)).contains (r, i)⟩
theorem f70C : compF Go.Proofs.Tryz.prog f70A 70 = some f70 := by kernel_rfl

abbrev f71r0 : Pc := .reg [
 Qd 0 2 (.mv (kz 0))] [0] []
abbrev f71r1 : Pc := .reg [
 Qd 0 3 (.mv (tm 0)),
 Qd 1 4 (.mm false [(kz 2147483647), (tm 3)]),
 Qd 2 5 (.mm true [(kz (-2147483647)), (tm 4)]),
 Qd 3 2 (.mv (tm 5))] [2] []
abbrev f71b : Pc := (.seq f71r0 (.seq f71r1 .ret))
abbrev f71 : Pfn := ⟨1, 6, [.tmp 2], f71b⟩
def f71K : Array (List Nat) := #[[0], [2]]
def f71H : Array (List Nat) := #[[], []]
def f71A : Ann := ⟨fun r => f71K.getD r [], fun r => f71H.getD r [], fun r i => ([] : List (Nat × Nat)).contains (r, i)⟩
theorem f71C : compF Go.Proofs.Tryz.prog f71A 71 = some f71 := by kernel_rfl

abbrev f72r0 : Pc := .reg [
 Qd 0 4 (.mv (kz 0))] [0, 1] []
abbrev f72r1 : Pc := .reg [
 Qd 0 6 (.mv (tm 0)),
 Qd 1 7 (.lenL (tm 6)),
 Qd 2 8 (.mv (kz 0))] [0, 1, 7, 8] []
abbrev f72r2 : Pc := .reg [
 Qd 0 9 (.bin .lss (tm 8) (tm 7))] [0, 1, 7, 8, 9] []
abbrev f72r3 : Pc := .reg [
 Qd 0 10 (.mv (tm 8)),
 Qd 1 5 (.mv (tm 10))] [0, 1, 5, 7, 8] []
abbrev f72r4 : Pc := .reg [
 Qd 0 11 (.mv (tm 1)),
 Qd 1 12 (.mv (tm 0)),
 Qd 2 13 (.mv (tm 5)),
 Qd 3 14 (.ixS 3 (tm 12) (tm 13)),
 Qd 4 15 (.load true 3 (tm 14)),
 Qd 5 16 (.callv (tm 11) [(tm 15)])] [0, 1, 5, 7, 8, 16] []
abbrev f72r5 : Pc := .reg [
 Qd 0 17 (.mv (tm 5)),
 Qd 1 4 (.mv (tm 17))] [4] []
abbrev f72r6 : Pc := .reg [
 Qd 0 18 (.bin .add (tm 8) (kz 1)),
 Qd 1 8 (.mv (tm 18))] [0, 1, 7, 8] []
def f72l0 : Pc := (.seq f72r2 (.seq (.cond (tm 9) .skip (.exit 0)) (.seq (.block 1 (.seq f72r3 (.seq f72r4 (.cond (tm 16) (.seq f72r5 .ret) .skip)))) f72r6)))
theorem f72l0e (C : Cfg) (s : St) : evL C f72l0 s = evL C (.seq f72r2 (.seq (.cond (tm 9) .skip (.exit 0)) (.seq (.block 1 (.seq f72r3 (.seq f72r4 (.cond (tm 16) (.seq f72r5 .ret) .skip)))) f72r6))) s := rfl
abbrev f72r7 : Pc := .reg [
 Qd 0 4 (.mv (kz (-1)))] [4] []
abbrev f72b : Pc := (.seq f72r0 (.seq (.seq f72r1 (.block 0 (.loop f72l0))) (.seq f72r7 .ret)))
abbrev f72 : Pfn := ⟨2, 19, [.tmp 4], f72b⟩
def f72K : Array (List Nat) := #[[0, 1], [0, 1, 7, 8], [0, 1, 7, 8, 9], [0, 1, 5, 7, 8], [0, 1, 5, 7, 8, 16], [4], [0, 1, 7, 8], [4]]
def f72H : Array (List Nat) := #[[], [], [], [], [], [], [], []]
def f72A : Ann := ⟨fun r => f72K.getD r [], fun r => f72H.getD r [], fun r i => ([] : List (Nat × Nat)).contains (r, i)⟩
theorem f72C : compF Go.Proofs.Tryz.prog f72A 72 = some f72 := by kernel_rfl


end Go.Proofs.YtbocnaoihepjfaaGreat.Pv
