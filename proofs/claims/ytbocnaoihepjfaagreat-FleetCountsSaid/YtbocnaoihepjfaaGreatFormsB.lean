import Derived.Test.YtbocnaoihepjfaaGreatPevA
import Derived.Test.YtbocnaoihepjfaaGreatPevC
import Derived.Test.YtbocnaoihepjfaaGreatProg
import Derived.KernelRfl
import Derived.Test.YtbocnaoihepjfaaGreatShort
namespace Go.Proofs.YtbocnaoihepjfaaGreat.Pv
open Go Go.Pev
abbrev f73r0 : Pc := .reg [
 Qd 0 2 (.box 53 3 (tm 0)),
 Qd 1 4 (.nilv 110 4)] [1, 2] [4, 11, 87]
abbrev f73r1 : Pc := .reg [
 Qd 0 5 (.nilv 155 4)] [1, 2, 5] []
abbrev f73r2 : Pc := .reg [
 Qd 0 6 (.nilv 91 2)] [1, 2, 5, 6] []
abbrev f73r3 : Pc := .reg [
 Qd 0 16 (.mv (tm 1)),
 Qd 1 17 (.lenL (tm 16)),
 Qd 2 18 (.mv (kz 0))] [2, 5, 6, 16, 17, 18] []
abbrev f73r4 : Pc := .reg [
 Qd 0 19 (.bin .lss (tm 18) (tm 17))] [2, 5, 6, 16, 17, 18, 19] []
abbrev f73r5 : Pc := .reg [
 Qd 0 20 (.ixS 1 (tm 16) (tm 18)),
 Qd 1 21 (.load false 1 (tm 20)),
 Qd 2 8 (.mv (tm 21))] [2, 5, 6, 8, 16, 17, 18] []
abbrev f73r6 : Pc := .reg [
 Qd 0 23 (.fad 0 (tm 2)),
 Qd 1 24 (.load false 1 (tm 23)),
 Qd 2 25 (.mv (tm 8)),
 Qd 3 26 (.call 109 [(tm 24), (tm 25)]),
 Qd 4 22 (.mv (tm 26)),
 Qd 5 27 (.ext 0 (tm 22)),
 Qd 6 28 (.ext 1 (tm 22)),
 Qd 7 9 (.alloc 155 [(.t (.i .i64 0)), (.t (.i .i64 0)), (.t (.i .i64 0)), (.t (.i .i64 0))]),
 Qn 8 (.store 4 (tm 9) (tm 27)),
 Qd 9 10 (.mv (tm 28))] [2, 5, 6, 9, 16, 17, 18] []
abbrev f73r7 : Pc := .reg [
 Qd 0 29 (.mv (tm 5)),
 Qd 1 30 (.load true 4 (tm 9)),
 Qd 2 31 (.bslT 4 [(tm 30)]),
 Qd 3 32 (.app 155 4 32 (tm 29) (tm 31)),
 Qd 4 5 (.mv (tm 32))] [2, 5, 6, 9, 16, 17, 18] []
abbrev f73r8 : Pc := .reg [
 Qd 0 33 (.mv (tm 6)),
 Qd 1 34 (.fad 0 (tm 9)),
 Qd 2 35 (.load false 1 (tm 34)),
 Qd 3 36 (.fad 1 (tm 9)),
 Qd 4 37 (.load false 1 (tm 36)),
 Qd 5 38 (.build [(.t (.i .i64 0)), (.t (.i .i64 0))] [(0, 1, (tm 35)), (1, 1, (tm 37))]),
 Qd 6 39 (.bslT 2 [(tm 38)]),
 Qd 7 40 (.app 91 2 16 (tm 33) (tm 39)),
 Qd 8 6 (.mv (tm 40))] [2, 5, 6, 16, 17, 18] [9]
abbrev f73r9 : Pc := .reg [
 Qd 0 41 (.bin .add (tm 18) (kz 1)),
 Qd 1 18 (.mv (tm 41))] [2, 5, 6, 16, 17, 18] []
def f73l0 : Pc := (.seq f73r4 (.seq (.cond (tm 19) .skip (.exit 0)) (.seq (.block 1 (.seq f73r5 (.seq f73r6 (.seq f73r7 f73r8)))) f73r9)))
theorem f73l0e (C : Cfg) (s : St) : evL C f73l0 s = evL C (.seq f73r4 (.seq (.cond (tm 19) .skip (.exit 0)) (.seq (.block 1 (.seq f73r5 (.seq f73r6 (.seq f73r7 f73r8)))) f73r9))) s := rfl
abbrev f73r10 : Pc := .reg [
 Qd 0 11 (.nilv 110 4)] [2, 5, 6, 11] []
abbrev f73r11 : Pc := .reg [
 Qd 0 42 (.mv (tm 6)),
 Qd 1 43 (.fad 1 (tm 2)),
 Qd 2 44 (.load false 1 (tm 43)),
 Qd 3 45 (.lenL (tm 44)),
 Qd 4 46 (.fad 2 (tm 2)),
 Qd 5 47 (.load false 1 (tm 46)),
 Qd 6 48 (.call 110 [(tm 42), (tm 45), (tm 47)]),
 Qd 7 49 (.lenL (tm 48)),
 Qd 8 50 (.mv (kz 0))] [5, 6, 11, 48, 49, 50] [2]
abbrev f73r12 : Pc := .reg [
 Qd 0 51 (.bin .lss (tm 50) (tm 49))] [5, 6, 11, 48, 49, 50, 51] []
abbrev f73r13 : Pc := .reg [
 Qd 0 52 (.mv (tm 50)),
 Qd 1 53 (.ixS 2 (tm 48) (tm 50)),
 Qd 2 54 (.load true 2 (tm 53)),
 Qd 3 13 (.alloc 91 [(.t (.i .i64 0)), (.t (.i .i64 0))]),
 Qd 4 12 (.mv (tm 52)),
 Qn 5 (.store 2 (tm 13) (tm 54))] [5, 6, 11, 12, 13, 48, 49, 50] []
abbrev f73r14 : Pc := .reg [
 Qd 0 55 (.load true 2 (tm 13)),
 Qd 1 56 (.mv (kz 0))] [5, 6, 11, 12, 48, 49, 50, 55, 56] [13]
abbrev f73r15 : Pc := .reg [
 Qd 0 57 (.bin .lss (tm 56) (kz 2))] [5, 6, 11, 12, 48, 49, 50, 55, 56, 57] []
abbrev f73r16 : Pc := .reg [
 Qd 0 58 (.mv (tm 56)),
 Qd 1 59 (.ixV false 2 1 (tm 55) (tm 56)),
 Qd 2 14 (.mv (tm 58)),
 Qd 3 15 (.mv (tm 59))] [5, 6, 11, 12, 14, 15, 48, 49, 50, 55, 56] []
abbrev f73r17 : Pc := .reg [
 Qd 0 60 (.mv (tm 15)),
 Qd 1 61 (.bin .geq (tm 60) (kz 0))] [5, 6, 11, 12, 14, 48, 49, 50, 55, 56, 61] []
abbrev f73r18 : Pc := .reg [
 Qd 0 62 (.mv (tm 11)),
 Qd 1 63 (.mv (tm 12)),
 Qd 2 64 (.mv (tm 14)),
 Qd 3 65 (.mv (tm 6)),
 Qd 4 66 (.mv (tm 12)),
 Qd 5 67 (.mv (tm 14)),
 Qd 6 68 (.ixS 2 (tm 65) (tm 66)),
 Qd 7 69 (.ixA 2 1 (tm 68) (tm 67)),
 Qd 8 70 (.load false 1 (tm 69)),
 Qd 9 71 (.mv (tm 5)),
 Qd 10 72 (.mv (tm 12)),
 Qd 11 73 (.ixS 4 (tm 71) (tm 72)),
 Qd 12 74 (.fad 2 (tm 73)),
 Qd 13 75 (.load false 1 (tm 74)),
 Qd 14 76 (.mv (tm 5)),
 Qd 15 77 (.mv (tm 12)),
 Qd 16 78 (.ixS 4 (tm 76) (tm 77)),
 Qd 17 79 (.fad 3 (tm 78)),
 Qd 18 80 (.load false 1 (tm 79)),
 Qd 19 81 (.bslF 1 [(tm 75), (tm 80)]),
 Qd 20 82 (.mv (tm 14)),
 Qd 21 83 (.ixS 1 (tm 81) (tm 82)),
 Qd 22 84 (.load false 1 (tm 83)),
 Qd 23 85 (.build [(.t (.i .i64 0)), (.t (.i .i64 0)), (.t (.i .i64 0)), (.t (.i .i64 0))] [(0, 1, (tm 63)), (1, 1, (tm 64)), (2, 1, (tm 70)), (3, 1, (tm 84))]),
 Qd 24 86 (.bslT 4 [(tm 85)]),
 Qd 25 87 (.app 110 4 32 (tm 62) (tm 86)),
 Qd 26 11 (.mv (tm 87))] [5, 6, 11, 12, 48, 49, 50, 55, 56] []
abbrev f73r19 : Pc := .reg [
 Qd 0 88 (.bin .add (tm 56) (kz 1)),
 Qd 1 56 (.mv (tm 88))] [5, 6, 11, 12, 48, 49, 50, 55, 56] []
def f73l1 : Pc := (.seq f73r15 (.seq (.cond (tm 57) .skip (.exit 4)) (.seq (.block 5 (.seq f73r16 (.seq f73r17 (.cond (tm 61) f73r18 .skip)))) f73r19)))
theorem f73l1e (C : Cfg) (s : St) : evL C f73l1 s = evL C (.seq f73r15 (.seq (.cond (tm 57) .skip (.exit 4)) (.seq (.block 5 (.seq f73r16 (.seq f73r17 (.cond (tm 61) f73r18 .skip)))) f73r19))) s := rfl
abbrev f73r20 : Pc := .reg [
 Qd 0 89 (.bin .add (tm 50) (kz 1)),
 Qd 1 50 (.mv (tm 89))] [5, 6, 11, 48, 49, 50] []
def f73l2 : Pc := (.seq f73r12 (.seq (.cond (tm 51) .skip (.exit 2)) (.seq (.block 3 (.seq f73r13 (.seq f73r14 (.block 4 (.loop f73l1))))) f73r20)))
theorem f73l2e (C : Cfg) (s : St) : evL C f73l2 s = evL C (.seq f73r12 (.seq (.cond (tm 51) .skip (.exit 2)) (.seq (.block 3 (.seq f73r13 (.seq f73r14 (.block 4 (.loop f73l1))))) f73r20))) s := rfl
abbrev f73r21 : Pc := .reg [
 Qd 0 90 (.mv (tm 11)),
 Qd 1 4 (.mv (tm 90))] [4] [5, 6, 32, 40]
abbrev f73b : Pc := (.seq f73r0 (.seq f73r1 (.seq f73r2 (.seq (.seq f73r3 (.block 0 (.loop f73l0))) (.seq f73r10 (.seq (.seq f73r11 (.block 2 (.loop f73l2))) (.seq f73r21 .ret)))))))
abbrev f73 : Pfn := ⟨2, 91, [.tmp 4], f73b⟩
def f73K : Array (List Nat) := #[[1, 2], [1, 2, 5], [1, 2, 5, 6], [2, 5, 6, 16, 17, 18], [2, 5, 6, 16, 17, 18, 19], [2, 5, 6, 8, 16, 17, 18], [2, 5, 6, 9, 16, 17, 18], [2, 5, 6, 9, 16, 17, 18], [2, 5, 6, 16, 17, 18], [2, 5, 6, 16, 17, 18], [2, 5, 6, 11], [5, 6, 11, 48, 49, 50], [5, 6, 11, 48, 49, 50, 51], [5, 6, 11, 12, 13, 48, 49, 50], [5, 6, 11, 12, 48, 49, 50, 55, 56], [5, 6, 11, 12, 48, 49, 50, 55, 56, 57], [5, 6, 11, 12, 14, 15, 48, 49, 50, 55, 56], [5, 6, 11, 12, 14, 48, 49, 50, 55, 56, 61], [5, 6, 11, 12, 48, 49, 50, 55, 56], [5, 6, 11, 12, 48, 49, 50, 55, 56], [5, 6, 11, 48, 49, 50], [4]]
def f73H : Array (List Nat) := #[[4, 11, 87], [], [], [], [], [], [], [], [9], [], [], [2], [], [], [13], [], [], [], [], [], [], [5, 6, 32, 40]]
def f73A : Ann := ⟨fun r => f73K.getD r [], fun r => f73H.getD r [], fun r i => ([] : List (Nat × Nat)).contains (r, i)⟩
theorem f73C : compF Go.Proofs.Tryz.prog f73A 73 = some f73 := by kernel_rfl

abbrev f74r0 : Pc := .reg [
 Qd 0 4 (.mv kF)] [0, 1] []
abbrev f74r1 : Pc := .reg [
 Qd 0 5 (.mv (tm 0)),
 Qd 1 6 (.mv (tm 1)),
 Qd 2 7 (.call 111 [(tm 5), (tm 6)]),
 Qd 3 8 (.bin .geq (tm 7) (kz 0)),
 Qd 4 4 (.mv (tm 8))] [4] []
abbrev f74b : Pc := (.seq f74r0 (.seq f74r1 .ret))
abbrev f74 : Pfn := ⟨2, 9, [.tmp 4], f74b⟩
def f74K : Array (List Nat) := #[[0, 1], [4]]
def f74H : Array (List Nat) := #[[], []]
def f74A : Ann := ⟨fun r => f74K.getD r [], fun r => f74H.getD r [], fun r i => ([] : List (Nat × Nat)).contains (r, i)⟩
theorem f74C : compF Go.Proofs.Tryz.prog f74A 74 = some f74 := by kernel_rfl

abbrev f75r0 : Pc := .reg [
 Qd 0 6 (.nilv 42 1)] [0, 1, 2] [6, 13]
abbrev f75r1 : Pc := .reg [
 Qd 0 12 (.mv (tm 0)),
 Qd 1 13 (.call 35 [(tm 12)]),
 Qd 2 7 (.mv (tm 13))] [1, 2, 7] []
abbrev f75r2 : Pc := .reg [
 Qd 0 14 (.mv (tm 1)),
 Qd 1 15 (.lenL (tm 14)),
 Qd 2 16 (.mv (kz 0))] [2, 7, 14, 15, 16] []
abbrev f75r3 : Pc := .reg [
 Qd 0 17 (.bin .lss (tm 16) (tm 15))] [2, 7, 14, 15, 16, 17] []
abbrev f75r4 : Pc := .reg [
 Qd 0 18 (.mv (tm 16)),
 Qd 1 19 (.ixS 4 (tm 14) (tm 16)),
 Qd 2 20 (.load true 4 (tm 19)),
 Qd 3 9 (.alloc 110 [(.t (.i .i64 0)), (.t (.i .i64 0)), (.t (.i .i64 0)), (.t (.i .i64 0))]),
 Qd 4 8 (.mv (tm 18)),
 Qn 5 (.store 4 (tm 9) (tm 20))] [2, 7, 8, 9, 14, 15, 16] []
abbrev f75r5 : Pc := .reg [
 Qd 0 21 (.mv (tm 8)),
 Qd 1 22 (.mv (tm 2)),
 Qd 2 23 (.lenL (tm 22)),
 Qd 3 24 (.bin .geq (tm 21) (tm 23)),
 Qd 4 25 (.mv (tm 24)),
 Gf 5 26 25 (.fad 0 (tm 9)),
 Gf 6 27 25 (.load false 1 (tm 26)),
 Gf 7 28 25 (.bin .lss (tm 27) (kz 0)),
 Qd 8 29 (.pick (tm 25) kT (tm 28)),
 Qd 9 30 (.mv (tm 29)),
 Gf 10 31 30 (.fad 0 (tm 9)),
 Gf 11 32 30 (.load false 1 (tm 31)),
 Gf 12 33 30 (.mv (tm 7)),
 Gf 13 34 30 (.lenL (tm 33)),
 Gf 14 35 30 (.bin .geq (tm 32) (tm 34)),
 Qd 15 36 (.pick (tm 30) kT (tm 35))] [2, 7, 8, 9, 14, 15, 16, 36] []
abbrev f75r6 : Pc := .reg [
 Qd 0 38 (.mv (tm 7)),
 Qd 1 39 (.fad 0 (tm 9)),
 Qd 2 40 (.load false 1 (tm 39)),
 Qd 3 41 (.ixS 1 (tm 38) (tm 40)),
 Qd 4 42 (.load false 1 (tm 41)),
 Qd 5 43 (.mv (tm 2)),
 Qd 6 44 (.mv (tm 8)),
 Qd 7 45 (.ixS 1 (tm 43) (tm 44)),
 Qd 8 46 (.load false 1 (tm 45)),
 Qd 9 47 (.fad 3 (tm 9)),
 Qd 10 48 (.load false 1 (tm 47)),
 Qd 11 49 (.callq 113 [(tm 46), (tm 48)]),
 Qd 12 50 (.callq 112 [(tm 42), (tm 49)]),
 Qd 13 37 (.mv (tm 50)),
 Qd 14 51 (.ext 0 (tm 37)),
 Qd 15 52 (.ext 1 (tm 37)),
 Qd 16 10 (.mv (tm 51)),
 Qd 17 11 (.mv (tm 52))] [2, 7, 9, 10, 11, 14, 15, 16] []
abbrev f75r7 : Pc := .reg [
 Qd 0 53 (.mv (tm 11))] [2, 7, 9, 10, 14, 15, 16, 53] []
abbrev f75r8 : Pc := .reg [
 Qd 0 54 (.mv (tm 7)),
 Qd 1 55 (.fad 0 (tm 9)),
 Qd 2 56 (.load false 1 (tm 55)),
 Qd 3 57 (.mv (tm 10)),
 Qd 4 58 (.ixS 1 (tm 54) (tm 56)),
 Qn 5 (.store 1 (tm 58) (tm 57))] [2, 7, 14, 15, 16] [9]
abbrev f75r9 : Pc := .reg [
 Qd 0 59 (.bin .add (tm 16) (kz 1)),
 Qd 1 16 (.mv (tm 59))] [2, 7, 14, 15, 16] [9]
def f75l0 : Pc := (.seq f75r3 (.seq (.cond (tm 17) .skip (.exit 0)) (.seq (.block 1 (.seq f75r4 (.seq (.seq f75r5 (.cond (tm 36) (.exit 1) .skip)) (.seq f75r6 (.seq f75r7 (.cond (tm 53) f75r8 .skip)))))) f75r9)))
theorem f75l0e (C : Cfg) (s : St) : evL C f75l0 s = evL C (.seq f75r3 (.seq (.cond (tm 17) .skip (.exit 0)) (.seq (.block 1 (.seq f75r4 (.seq (.seq f75r5 (.cond (tm 36) (.exit 1) .skip)) (.seq f75r6 (.seq f75r7 (.cond (tm 53) f75r8 .skip)))))) f75r9))) s := rfl
abbrev f75r10 : Pc := .reg [
 Qd 0 60 (.mv (tm 7)),
 Qd 1 6 (.mv (tm 60))] [6] []
abbrev f75b : Pc := (.seq f75r0 (.seq f75r1 (.seq (.seq f75r2 (.block 0 (.loop f75l0))) (.seq f75r10 .ret))))
abbrev f75 : Pfn := ⟨3, 61, [.tmp 6], f75b⟩
def f75K : Array (List Nat) := #[[0, 1, 2], [1, 2, 7], [2, 7, 14, 15, 16], [2, 7, 14, 15, 16, 17], [2, 7, 8, 9, 14, 15, 16], [2, 7, 8, 9, 14, 15, 16, 36], [2, 7, 9, 10, 11, 14, 15, 16], [2, 7, 9, 10, 14, 15, 16, 53], [2, 7, 14, 15, 16], [2, 7, 14, 15, 16], [6]]
def f75H : Array (List Nat) := #[[6, 13], [], [], [], [], [], [], [], [9], [9], []]
def f75A : Ann := ⟨fun r => f75K.getD r [], fun r => f75H.getD r [], fun r i => ([] : List (Nat × Nat)).contains (r, i)⟩
theorem f75C : compF Go.Proofs.Tryz.prog f75A 75 = some f75 := by kernel_rfl

abbrev f76r0 : Pc := .reg [
 Qd 0 6 (.mv kF)] [0, 1, 2] []
abbrev f76r1 : Pc := .reg [
 Qd 0 9 (.mv (tm 0)),
 Qd 1 10 (.lenL (tm 9)),
 Qd 2 11 (.mv (tm 1)),
 Qd 3 12 (.bin .neq (tm 10) (tm 11))] [0, 2, 12] []
abbrev f76r2 : Pc := .reg [
 Qd 0 6 (.mv kF)] [6] []
abbrev f76r3 : Pc := .reg [
 Qd 0 7 (.mv (kz 0))] [0, 2, 7] []
abbrev f76r4 : Pc := .reg [
 Qd 0 13 (.mv (tm 7)),
 Qd 1 14 (.mv (tm 0)),
 Qd 2 15 (.lenL (tm 14)),
 Qd 3 16 (.bin .lss (tm 13) (tm 15))] [0, 2, 7, 16] []
abbrev f76r6 : Pc := .reg [
 Qd 0 19 (.mv (tm 0)),
 Qd 1 20 (.mv (tm 7)),
 Qd 2 21 (.ixS 1 (tm 19) (tm 20)),
 Qd 3 22 (.load false 1 (tm 21)),
 Qd 4 23 (.lenL (tm 22)),
 Qd 5 24 (.mv (tm 2)),
 Qd 6 25 (.bin .neq (tm 23) (tm 24))] [0, 2, 7, 25] []
abbrev f76r7 : Pc := .reg [
 Qd 0 6 (.mv kF)] [6] []
abbrev f76r8 : Pc := .reg [
 Qd 0 8 (.mv (kz 0))] [0, 2, 7, 8] []
abbrev f76r9 : Pc := .reg [
 Qd 0 26 (.mv (tm 8)),
 Qd 1 27 (.mv (tm 0)),
 Qd 2 28 (.mv (tm 7)),
 Qd 3 29 (.ixS 1 (tm 27) (tm 28)),
 Qd 4 30 (.load false 1 (tm 29)),
 Qd 5 31 (.lenL (tm 30)),
 Qd 6 32 (.bin .lss (tm 26) (tm 31))] [0, 2, 7, 8, 32] []
abbrev f76r11 : Pc := .reg [
 Qd 0 35 (.mv (tm 0)),
 Qd 1 36 (.mv (tm 7)),
 Qd 2 37 (.ixS 1 (tm 35) (tm 36)),
 Qd 3 38 (.load false 1 (tm 37)),
 Qd 4 39 (.mv (tm 8)),
 Qd 5 40 (.ixS 1 (tm 38) (tm 39)),
 Qd 6 41 (.load false 1 (tm 40)),
 Qd 7 42 (.bin .gtr (tm 41) (kz 2147483647)),
 Qd 8 43 (.mv (tm 42)),
 Gf 9 44 43 (.mv (tm 0)),
 Gf 10 45 43 (.mv (tm 7)),
 Gf 11 46 43 (.ixS 1 (tm 44) (tm 45)),
 Gf 12 47 43 (.load false 1 (tm 46)),
 Gf 13 48 43 (.mv (tm 8)),
 Gf 14 49 43 (.ixS 1 (tm 47) (tm 48)),
 Gf 15 50 43 (.load false 1 (tm 49)),
 Gf 16 51 43 (.bin .lss (tm 50) (kz (-2147483647))),
 Qd 17 52 (.pick (tm 43) kT (tm 51))] [0, 2, 7, 8, 52] []
abbrev f76r12 : Pc := .reg [
 Qd 0 6 (.mv kF)] [6] []
abbrev f76r10 : Pc := .reg [
 Qd 0 33 (.mv (tm 8)),
 Qd 1 34 (.bin .add (tm 33) (kz 1)),
 Qd 2 8 (.mv (tm 34))] [0, 2, 7, 8] []
def f76l0 : Pc := (.seq (.seq f76r9 (.cond (tm 32) .skip (.exit 2))) (.seq (.block 3 (.seq f76r11 (.cond (tm 52) (.seq f76r12 .ret) .skip))) f76r10))
theorem f76l0e (C : Cfg) (s : St) : evL C f76l0 s = evL C (.seq (.seq f76r9 (.cond (tm 32) .skip (.exit 2))) (.seq (.block 3 (.seq f76r11 (.cond (tm 52) (.seq f76r12 .ret) .skip))) f76r10)) s := rfl
abbrev f76r5 : Pc := .reg [
 Qd 0 17 (.mv (tm 7)),
 Qd 1 18 (.bin .add (tm 17) (kz 1)),
 Qd 2 7 (.mv (tm 18))] [0, 2, 7] []
def f76l1 : Pc := (.seq (.seq f76r4 (.cond (tm 16) .skip (.exit 0))) (.seq (.block 1 (.seq (.seq f76r6 (.cond (tm 25) (.seq f76r7 .ret) .skip)) (.seq f76r8 (.block 2 (.loop f76l0))))) f76r5))
theorem f76l1e (C : Cfg) (s : St) : evL C f76l1 s = evL C (.seq (.seq f76r4 (.cond (tm 16) .skip (.exit 0))) (.seq (.block 1 (.seq (.seq f76r6 (.cond (tm 25) (.seq f76r7 .ret) .skip)) (.seq f76r8 (.block 2 (.loop f76l0))))) f76r5)) s := rfl
abbrev f76r13 : Pc := .reg [
 Qd 0 6 (.mv kT)] [6] []
abbrev f76b : Pc := (.seq f76r0 (.seq (.seq f76r1 (.cond (tm 12) (.seq f76r2 .ret) .skip)) (.seq (.seq f76r3 (.block 0 (.loop f76l1))) (.seq f76r13 .ret))))
abbrev f76 : Pfn := ⟨3, 53, [.tmp 6], f76b⟩
def f76K : Array (List Nat) := #[[0, 1, 2], [0, 2, 12], [6], [0, 2, 7], [0, 2, 7, 16], [0, 2, 7], [0, 2, 7, 25], [6], [0, 2, 7, 8], [0, 2, 7, 8, 32], [0, 2, 7, 8], [0, 2, 7, 8, 52], [6], [6]]
def f76H : Array (List Nat) := #[[], [], [], [], [], [], [], [], [], [], [], [], [], []]
def f76A : Ann := ⟨fun r => f76K.getD r [], fun r => f76H.getD r [], fun r i => ([] : List (Nat × Nat)).contains (r, i)⟩
theorem f76C : compF Go.Proofs.Tryz.prog f76A 76 = some f76 := by kernel_rfl

abbrev f77r0 : Pc := .reg [
 Qd 0 2 (.box 67 2 (tm 0)),
 Qd 1 4 (.mv kF)] [1, 2] []
abbrev f77r1 : Pc := .reg [
 Qd 0 6 (.fad 0 (tm 2)),
 Qd 1 7 (.load false 1 (tm 6)),
 Qd 2 8 (.lenL (tm 7)),
 Qd 3 5 (.mv (tm 8))] [1, 2, 5] []
abbrev f77r2 : Pc := .reg [
 Qd 0 9 (.mv (tm 1)),
 Qd 1 10 (.bin .lss (tm 9) (kz 1)),
 Qd 2 11 (.mv (tm 10)),
 Gf 3 12 11 (.mv (tm 1)),
 Gf 4 13 11 (.bin .gtr (tm 12) (kz 8)),
 Qd 5 14 (.pick (tm 11) kT (tm 13)),
 Qd 6 15 (.mv (tm 14)),
 Gf 7 16 15 (.mv (tm 5)),
 Gf 8 17 15 (.bin .lss (tm 16) (kz 1)),
 Qd 9 18 (.pick (tm 15) kT (tm 17)),
 Qd 10 19 (.mv (tm 18)),
 Gf 11 20 19 (.mv (tm 5)),
 Gf 12 21 19 (.bin .gtr (tm 20) (kz 8)),
 Qd 13 22 (.pick (tm 19) kT (tm 21))] [1, 2, 5, 22] []
abbrev f77r3 : Pc := .reg [
 Qd 0 4 (.mv kF)] [4] [2]
abbrev f77r4 : Pc := .reg [
 Qd 0 23 (.fad 0 (tm 2)),
 Qd 1 24 (.load false 1 (tm 23)),
 Qd 2 25 (.mv (tm 5)),
 Qd 3 26 (.mv (tm 1)),
 Qd 4 27 (.call 76 [(tm 24), (tm 25), (tm 26)]),
 Qd 5 28 (.mv (tm 27)),
 Gt 6 29 28 (.fad 1 (tm 2)),
 Gt 7 30 28 (.load false 1 (tm 29)),
 Gt 8 31 28 (.mv (tm 1)),
 Gt 9 32 28 (.mv (tm 5)),
 Gt 10 33 28 (.call 76 [(tm 30), (tm 31), (tm 32)]),
 Qd 11 34 (.pick (tm 28) (tm 33) kF),
 Qd 12 4 (.mv (tm 34))] [4] [2]
abbrev f77b : Pc := (.seq f77r0 (.seq f77r1 (.seq (.seq f77r2 (.cond (tm 22) (.seq f77r3 .ret) .skip)) (.seq f77r4 .ret))))
abbrev f77 : Pfn := ⟨2, 35, [.tmp 4], f77b⟩
def f77K : Array (List Nat) := #[[1, 2], [1, 2, 5], [1, 2, 5, 22], [4], [4]]
def f77H : Array (List Nat) := #[[], [], [], [2], [2]]
def f77A : Ann := ⟨fun r => f77K.getD r [], fun r => f77H.getD r [], fun r i => ([] : List (Nat × Nat)).contains (r, i)⟩
theorem f77C : compF Go.Proofs.Tryz.prog f77A 77 = some f77 := by kernel_rfl

abbrev f78r0 : Pc := .reg [
 Qd 0 4 (.mv (kz 0))] [0, 1] []
abbrev f78r1 : Pc := .reg [
 Qd 0 5 (.mv (kz 0)),
 Qd 1 6 (.mv (kz 1))] [0, 1, 5, 6] []
abbrev f78r2 : Pc := .reg [
 Qd 0 7 (.mv (tm 0)),
 Qd 1 8 (.bin .gtr (tm 7) (kz 0)),
 Qd 2 9 (.mv (tm 8)),
 Gf 3 10 9 (.mv (tm 1)),
 Gf 4 11 9 (.bin .gtr (tm 10) (kz 0)),
 Qd 5 12 (.pick (tm 9) kT (tm 11))] [0, 1, 5, 6, 12] []
abbrev f78r3 : Pc := .reg [
 Qd 0 13 (.mv (tm 0)),
 Qd 1 14 (.bin .rem (tm 13) (kz 2)),
 Qd 2 15 (.mv (tm 1)),
 Qd 3 16 (.bin .rem (tm 15) (kz 2)),
 Qd 4 17 (.bin .neq (tm 14) (tm 16))] [0, 1, 5, 6, 17] []
abbrev f78r4 : Pc := .reg [
 Qd 0 18 (.mv (tm 5)),
 Qd 1 19 (.mv (tm 6)),
 Qd 2 20 (.bin .add (tm 18) (tm 19)),
 Qd 3 5 (.mv (tm 20))] [0, 1, 5, 6] []
abbrev f78r5 : Pc := .reg [
 Qd 0 21 (.mv (tm 0)),
 Qd 1 22 (.bin .quo (tm 21) (kz 2)),
 Qd 2 23 (.mv (tm 1)),
 Qd 3 24 (.bin .quo (tm 23) (kz 2)),
 Qd 4 25 (.mv (tm 6)),
 Qd 5 26 (.bin .mul (kz 2) (tm 25)),
 Qd 6 0 (.mv (tm 22)),
 Qd 7 1 (.mv (tm 24)),
 Qd 8 6 (.mv (tm 26))] [0, 1, 5, 6] []
def f78l0 : Pc := (.seq (.seq f78r2 (.cond (tm 12) .skip (.exit 0))) (.block 1 (.seq (.seq f78r3 (.cond (tm 17) f78r4 .skip)) f78r5)))
theorem f78l0e (C : Cfg) (s : St) : evL C f78l0 s = evL C (.seq (.seq f78r2 (.cond (tm 12) .skip (.exit 0))) (.block 1 (.seq (.seq f78r3 (.cond (tm 17) f78r4 .skip)) f78r5))) s := rfl
abbrev f78r6 : Pc := .reg [
 Qd 0 27 (.mv (tm 5)),
 Qd 1 4 (.mv (tm 27))] [4] []
abbrev f78b : Pc := (.seq f78r0 (.seq f78r1 (.seq (.block 0 (.loop f78l0)) (.seq f78r6 .ret))))
abbrev f78 : Pfn := ⟨2, 28, [.tmp 4], f78b⟩
def f78K : Array (List Nat) := #[[0, 1], [0, 1, 5, 6], [0, 1, 5, 6, 12], [0, 1, 5, 6, 17], [0, 1, 5, 6], [0, 1, 5, 6], [4]]
def f78H : Array (List Nat) := #[[], [], [], [], [], [], []]
def f78A : Ann := ⟨fun r => f78K.getD r [], fun r => f78H.getD r [], fun r i => ([] : List (Nat × Nat)).contains (r, i)⟩
theorem f78C : compF Go.Proofs.Tryz.prog f78A 78 = some f78 := by kernel_rfl

abbrev f79r0 : Pc := .reg [
 Qd 0 4 (.nilv 3 1),
 Qd 1 5 (.mv kF)] [0, 1] [4, 6, 30]
abbrev f79r1 : Pc := .reg [
 Qd 0 6 (.nilv 3 1)] [0, 1, 6] []
abbrev f79r2 : Pc := .reg [
 Qd 0 7 (.mv (kz 0))] [0, 1, 6, 7] []
abbrev f79r3 : Pc := .reg [
 Qd 0 8 (.mv (tm 7)),
 Qd 1 9 (.mv (tm 0)),
 Qd 2 10 (.lenL (tm 9)),
 Qd 3 11 (.bin .lss (tm 8) (tm 10))] [0, 1, 6, 7, 11] []
abbrev f79r5 : Pc := .reg [
 Qd 0 14 (.mv (tm 0)),
 Qd 1 15 (.mv (tm 7)),
 Qd 2 16 (.ixS 1 (tm 14) (tm 15)),
 Qd 3 17 (.load false 1 (tm 16)),
 Qd 4 18 (.lenL (tm 17)),
 Qd 5 19 (.mv (tm 1)),
 Qd 6 20 (.lenL (tm 19)),
 Qd 7 21 (.bin .neq (tm 18) (tm 20))] [0, 1, 6, 7, 21] []
abbrev f79r6 : Pc := .reg [
 Qd 0 4 (.nilv 3 1),
 Qd 1 5 (.mv kF)] [4, 5] []
abbrev f79r7 : Pc := .reg [
 Qd 0 22 (.mv (tm 6)),
 Qd 1 23 (.mv (tm 0)),
 Qd 2 24 (.mv (tm 7)),
 Qd 3 25 (.ixS 1 (tm 23) (tm 24)),
 Qd 4 26 (.load false 1 (tm 25)),
 Qd 5 27 (.mv (tm 1)),
 Qd 6 28 (.call 114 [(tm 26), (tm 27)]),
 Qd 7 29 (.bslT 1 [(tm 28)]),
 Qd 8 30 (.app 3 1 8 (tm 22) (tm 29)),
 Qd 9 6 (.mv (tm 30))] [0, 1, 6, 7] []
abbrev f79r4 : Pc := .reg [
 Qd 0 12 (.mv (tm 7)),
 Qd 1 13 (.bin .add (tm 12) (kz 1)),
 Qd 2 7 (.mv (tm 13))] [0, 1, 6, 7] []
def f79l0 : Pc := (.seq (.seq f79r3 (.cond (tm 11) .skip (.exit 0))) (.seq (.block 1 (.seq (.seq f79r5 (.cond (tm 21) (.seq f79r6 .ret) .skip)) f79r7)) f79r4))
theorem f79l0e (C : Cfg) (s : St) : evL C f79l0 s = evL C (.seq (.seq f79r3 (.cond (tm 11) .skip (.exit 0))) (.seq (.block 1 (.seq (.seq f79r5 (.cond (tm 21) (.seq f79r6 .ret) .skip)) f79r7)) f79r4)) s := rfl
abbrev f79r8 : Pc := .reg [
 Qd 0 31 (.mv (tm 6)),
 Qd 1 4 (.mv (tm 31)),
 Qd 2 5 (.mv kT)] [4, 5] []
abbrev f79b : Pc := (.seq f79r0 (.seq f79r1 (.seq (.seq f79r2 (.block 0 (.loop f79l0))) (.seq f79r8 .ret))))
abbrev f79 : Pfn := ⟨2, 32, [.tmp 4, .tmp 5], f79b⟩
def f79K : Array (List Nat) := #[[0, 1], [0, 1, 6], [0, 1, 6, 7], [0, 1, 6, 7, 11], [0, 1, 6, 7], [0, 1, 6, 7, 21], [4, 5], [0, 1, 6, 7], [4, 5]]
def f79H : Array (List Nat) := #[[4, 6, 30], [], [], [], [], [], [], [], []]
def f79A : Ann := ⟨fun r => f79K.getD r [], fun r => f79H.getD r [], fun r i => ([] : List (Nat × Nat)).contains (r, i)⟩
theorem f79C : compF Go.Proofs.Tryz.prog f79A 79 = some f79 := by kernel_rfl

abbrev f80r0 : Pc := .reg [
 Qd 0 4 (.mv (kz 0))] [0, 1] []
abbrev f80r1 : Pc := .reg [
 Qd 0 5 (.mv (kz 0))] [0, 1, 5] []
abbrev f80r2 : Pc := .reg [
 Qd 0 6 (.mv (tm 5)),
 Qd 1 7 (.mv (tm 0)),
 Qd 2 8 (.lenL (tm 7)),
 Qd 3 9 (.bin .lss (tm 6) (tm 8))] [0, 1, 5, 9] []
abbrev f80r4 : Pc := .reg [
 Qd 0 12 (.mv (tm 0)),
 Qd 1 13 (.mv (tm 5)),
 Qd 2 14 (.call 115 [(tm 12), (tm 13)]),
 Qd 3 15 (.mv (tm 1)),
 Qd 4 16 (.bin .eql (tm 14) (tm 15))] [0, 1, 5, 16] []
abbrev f80r5 : Pc := .reg [
 Qd 0 17 (.mv (tm 5)),
 Qd 1 4 (.mv (tm 17))] [4] []
abbrev f80r3 : Pc := .reg [
 Qd 0 10 (.mv (tm 5)),
 Qd 1 11 (.bin .add (tm 10) (kz 1)),
 Qd 2 5 (.mv (tm 11))] [0, 1, 5] []
def f80l0 : Pc := (.seq (.seq f80r2 (.cond (tm 9) .skip (.exit 0))) (.seq (.block 1 (.seq f80r4 (.cond (tm 16) (.seq f80r5 .ret) .skip))) f80r3))
theorem f80l0e (C : Cfg) (s : St) : evL C f80l0 s = evL C (.seq (.seq f80r2 (.cond (tm 9) .skip (.exit 0))) (.seq (.block 1 (.seq f80r4 (.cond (tm 16) (.seq f80r5 .ret) .skip))) f80r3)) s := rfl
abbrev f80r6 : Pc := .reg [
 Qd 0 4 (.mv (kz (-1)))] [4] []
abbrev f80b : Pc := (.seq f80r0 (.seq (.seq f80r1 (.block 0 (.loop f80l0))) (.seq f80r6 .ret)))
abbrev f80 : Pfn := ⟨2, 18, [.tmp 4], f80b⟩
def f80K : Array (List Nat) := #[[0, 1], [0, 1, 5], [0, 1, 5, 9], [0, 1, 5], [0, 1, 5, 16], [4], [4]]
def f80H : Array (List Nat) := #[[], [], [], [], [], [], []]
def f80A : Ann := ⟨fun r => f80K.getD r [], fun r => f80H.getD r [], fun r i => ([] : List (Nat × Nat)).contains (r, i)⟩
theorem f80C : compF Go.Proofs.Tryz.prog f80A 80 = some f80 := by kernel_rfl

abbrev f81r0 : Pc := .reg [
 Qd 0 4 (.mv (kz 0))] [0, 1] []
abbrev f81r1 : Pc := .reg [
 Qd 0 10 (.mv (tm 0)),
 Qd 1 11 (.call 116 [(tm 10)]),
 Qd 2 12 (.mv (tm 1)),
 Qd 3 13 (.call 116 [(tm 12)]),
 Qd 4 5 (.mv (tm 11)),
 Qd 5 6 (.mv (tm 13))] [5, 6] []
abbrev f81r2 : Pc := .reg [
 Qd 0 14 (.mv (tm 5)),
 Qd 1 7 (.mv (kz 0)),
 Qd 2 8 (.mv (tm 14))] [5, 6, 7, 8] []
abbrev f81r3 : Pc := .reg [
 Qd 0 9 (.mv (kz 0))] [5, 6, 7, 8, 9] []
abbrev f81r4 : Pc := .reg [
 Qd 0 15 (.mv (tm 9)),
 Qd 1 16 (.bin .lss (tm 15) (kz 16))] [5, 6, 7, 8, 9, 16] []
abbrev f81r6 : Pc := .reg [
 Qd 0 19 (.mv (tm 7)),
 Qd 1 20 (.bin .mul (kz 2) (tm 19)),
 Qd 2 21 (.mv (tm 8)),
 Qd 3 22 (.bin .mul (kz 2) (tm 21)),
 Qd 4 7 (.mv (tm 20)),
 Qd 5 8 (.mv (tm 22))] [5, 6, 7, 8, 9] []
abbrev f81r7 : Pc := .reg [
 Qd 0 23 (.mv (tm 8)),
 Qd 1 24 (.mv (tm 5)),
 Qd 2 25 (.mv (tm 6)),
 Qd 3 26 (.bin .add (tm 24) (tm 25)),
 Qd 4 27 (.bin .geq (tm 23) (tm 26))] [5, 6, 7, 8, 9, 27] []
abbrev f81r8 : Pc := .reg [
 Qd 0 28 (.mv (tm 7)),
 Qd 1 29 (.bin .add (tm 28) (kz 1)),
 Qd 2 7 (.mv (tm 29))] [5, 6, 7, 8, 9] []
abbrev f81r9 : Pc := .reg [
 Qd 0 30 (.mv (tm 8)),
 Qd 1 31 (.mv (tm 5)),
 Qd 2 32 (.mv (tm 6)),
 Qd 3 33 (.bin .add (tm 31) (tm 32)),
 Qd 4 34 (.bin .sub (tm 30) (tm 33)),
 Qd 5 8 (.mv (tm 34))] [5, 6, 7, 8, 9] []
abbrev f81r5 : Pc := .reg [
 Qd 0 17 (.mv (tm 9)),
 Qd 1 18 (.bin .add (tm 17) (kz 1)),
 Qd 2 9 (.mv (tm 18))] [5, 6, 7, 8, 9] []
def f81l0 : Pc := (.seq (.seq f81r4 (.cond (tm 16) .skip (.exit 0))) (.seq (.block 1 (.seq f81r6 (.seq f81r7 (.cond (tm 27) (.seq f81r8 f81r9) .skip)))) f81r5))
theorem f81l0e (C : Cfg) (s : St) : evL C f81l0 s = evL C (.seq (.seq f81r4 (.cond (tm 16) .skip (.exit 0))) (.seq (.block 1 (.seq f81r6 (.seq f81r7 (.cond (tm 27) (.seq f81r8 f81r9) .skip)))) f81r5)) s := rfl
abbrev f81r10 : Pc := .reg [
 Qd 0 35 (.mv (tm 7)),
 Qd 1 4 (.mv (tm 35))] [4] []
abbrev f81b : Pc := (.seq f81r0 (.seq f81r1 (.seq f81r2 (.seq (.seq f81r3 (.block 0 (.loop f81l0))) (.seq f81r10 .ret)))))
abbrev f81 : Pfn := ⟨2, 36, [.tmp 4], f81b⟩
def f81K : Array (List Nat) := #[[0, 1], [5, 6], [5, 6, 7, 8], [5, 6, 7, 8, 9], [5, 6, 7, 8, 9, 16], [5, 6, 7, 8, 9], [5, 6, 7, 8, 9], [5, 6, 7, 8, 9, 27], [5, 6, 7, 8, 9], [5, 6, 7, 8, 9], [4]]
def f81H : Array (List Nat) := #[[], [], [], [], [], [], [], [], [], [], []]
def f81A : Ann := ⟨fun r => f81K.getD r [], fun r => f81H.getD r [], fun r i => ([] : List (Nat × Nat)).contains (r, i)⟩
theorem f81C : compF Go.Proofs.Tryz.prog f81A 81 = some f81 := by kernel_rfl

abbrev f82r0 : Pc := .reg [
 Qd 0 8 (.mv (kz 0))] [0, 1, 2, 3] []
abbrev f82r1 : Pc := .reg [
 Qd 0 9 (.mv (kz 0))] [0, 1, 2, 3, 9] []
abbrev f82r2 : Pc := .reg [
 Qd 0 10 (.mv (kz 0))] [0, 1, 2, 3, 9, 10] []
abbrev f82r3 : Pc := .reg [
 Qd 0 12 (.mv (tm 10)),
 Qd 1 13 (.mv (tm 1)),
 Qd 2 14 (.bin .leq (tm 12) (tm 13))] [0, 1, 2, 3, 9, 10, 14] []
abbrev f82r5 : Pc := .reg [
 Qd 0 11 (.mv (kz 0))] [0, 1, 2, 3, 9, 10, 11] []
abbrev f82r6 : Pc := .reg [
 Qd 0 17 (.mv (tm 11)),
 Qd 1 18 (.bin .lss (tm 17) (kz 2))] [0, 1, 2, 3, 9, 10, 11, 18] []
abbrev f82r8 : Pc := .reg [
 Qd 0 21 (.mv (tm 0)),
 Qd 1 22 (.mv (tm 10)),
 Qd 2 23 (.mv (tm 11)),
 Qd 3 24 (.ixS 2 (tm 21) (tm 22)),
 Qd 4 25 (.ixA 2 1 (tm 24) (tm 23)),
 Qd 5 26 (.load false 1 (tm 25)),
 Qd 6 27 (.mv (tm 3)),
 Qd 7 28 (.bin .eql (tm 26) (tm 27)),
 Qd 8 29 (.mv (tm 28)),
 Gt 9 30 29 (.mv (tm 10)),
 Gt 10 31 29 (.mv (tm 1)),
 Gt 11 32 29 (.bin .lss (tm 30) (tm 31)),
 Gt 12 33 29 (.mv (tm 32)),
 Gf 13 34 33 (.mv (tm 11)),
 Gf 14 35 33 (.mv (tm 2)),
 Gf 15 36 33 (.bin .lss (tm 34) (tm 35)),
 Gt 16 37 29 (.pick (tm 33) kT (tm 36)),
 Qd 17 38 (.pick (tm 29) (tm 37) kF)] [0, 1, 2, 3, 9, 10, 11, 38] []
abbrev f82r9 : Pc := .reg [
 Qd 0 39 (.mv (tm 9)),
 Qd 1 40 (.bin .add (tm 39) (kz 1)),
 Qd 2 9 (.mv (tm 40))] [0, 1, 2, 3, 9, 10, 11] []
abbrev f82r7 : Pc := .reg [
 Qd 0 19 (.mv (tm 11)),
 Qd 1 20 (.bin .add (tm 19) (kz 1)),
 Qd 2 11 (.mv (tm 20))] [0, 1, 2, 3, 9, 10, 11] []
def f82l0 : Pc := (.seq (.seq f82r6 (.cond (tm 18) .skip (.exit 2))) (.seq (.block 3 (.seq f82r8 (.cond (tm 38) f82r9 .skip))) f82r7))
theorem f82l0e (C : Cfg) (s : St) : evL C f82l0 s = evL C (.seq (.seq f82r6 (.cond (tm 18) .skip (.exit 2))) (.seq (.block 3 (.seq f82r8 (.cond (tm 38) f82r9 .skip))) f82r7)) s := rfl
abbrev f82r4 : Pc := .reg [
 Qd 0 15 (.mv (tm 10)),
 Qd 1 16 (.bin .add (tm 15) (kz 1)),
 Qd 2 10 (.mv (tm 16))] [0, 1, 2, 3, 9, 10] []
def f82l1 : Pc := (.seq (.seq f82r3 (.cond (tm 14) .skip (.exit 0))) (.seq (.block 1 (.seq f82r5 (.block 2 (.loop f82l0)))) f82r4))
theorem f82l1e (C : Cfg) (s : St) : evL C f82l1 s = evL C (.seq (.seq f82r3 (.cond (tm 14) .skip (.exit 0))) (.seq (.block 1 (.seq f82r5 (.block 2 (.loop f82l0)))) f82r4)) s := rfl
abbrev f82r10 : Pc := .reg [
 Qd 0 41 (.mv (tm 9)),
 Qd 1 8 (.mv (tm 41))] [8] []
abbrev f82b : Pc := (.seq f82r0 (.seq f82r1 (.seq (.seq f82r2 (.block 0 (.loop f82l1))) (.seq f82r10 .ret))))
abbrev f82 : Pfn := ⟨4, 42, [.tmp 8], f82b⟩
def f82K : Array (List Nat) := #[[0, 1, 2, 3], [0, 1, 2, 3, 9], [0, 1, 2, 3, 9, 10], [0, 1, 2, 3, 9, 10, 14], [0, 1, 2, 3, 9, 10], [0, 1, 2, 3, 9, 10, 11], [0, 1, 2, 3, 9, 10, 11, 18], [0, 1, 2, 3, 9, 10, 11], [0, 1, 2, 3, 9, 10, 11, 38], [0, 1, 2, 3, 9, 10, 11], [8]]
def f82H : Array (List Nat) := #[[], [], [], [], [], [], [], [], [], [], []]
def f82A : Ann := ⟨fun r => f82K.getD r [], fun r => f82H.getD r [], fun r i => ([] : List (Nat × Nat)).contains (r, i)⟩
theorem f82C : compF Go.Proofs.Tryz.prog f82A 82 = some f82 := by kernel_rfl

abbrev f83r0 : Pc := .reg [
 Qd 0 2 (.mv (kz 0))] [0] []
abbrev f83r1 : Pc := .reg [
 Qd 0 3 (.mv (tm 0)),
 Qd 1 4 (.bin .gtr (tm 3) (kz 2147483647))] [0, 4] []
abbrev f83r2 : Pc := .reg [
 Qd 0 2 (.mv (kz 2147483647))] [2] []
abbrev f83r3 : Pc := .reg [
 Qd 0 5 (.mv (tm 0)),
 Qd 1 6 (.bin .lss (tm 5) (kz (-2147483647)))] [0, 6] []
abbrev f83r4 : Pc := .reg [
 Qd 0 2 (.mv (kz (-2147483647)))] [2] []
abbrev f83r5 : Pc := .reg [
 Qd 0 7 (.mv (tm 0)),
 Qd 1 2 (.mv (tm 7))] [2] []
abbrev f83b : Pc := (.seq f83r0 (.seq (.seq f83r1 (.cond (tm 4) (.seq f83r2 .ret) .skip)) (.seq (.seq f83r3 (.cond (tm 6) (.seq f83r4 .ret) .skip)) (.seq f83r5 .ret))))
abbrev f83 : Pfn := ⟨1, 8, [.tmp 2], f83b⟩
def f83K : Array (List Nat) := #[[0], [0, 4], [2], [0, 6], [2], [2]]
def f83H : Array (List Nat) := #[[], [], [], [], [], []]
def f83A : Ann := ⟨fun r => f83K.getD r [], fun r => f83H.getD r [], fun r i => ([] : List (Nat × Nat)).contains (r, i)⟩
theorem f83C : compF Go.Proofs.Tryz.prog f83A 83 = some f83 := by kernel_rfl

abbrev f84r0 : Pc := .reg [
 Qd 0 4 (.mv (kz 0))] [0, 1] []
abbrev f84r1 : Pc := .reg [
 Qd 0 7 (.mv (tm 0)),
 Qd 1 8 (.call 83 [(tm 7)]),
 Qd 2 9 (.mv (tm 1)),
 Qd 3 10 (.call 83 [(tm 9)]),
 Qd 4 0 (.mv (tm 8)),
 Qd 5 1 (.mv (tm 10))] [0, 1] []
abbrev f84r2 : Pc := .reg [
 Qd 0 5 (.mv kF)] [0, 1, 5] []
abbrev f84r3 : Pc := .reg [
 Qd 0 11 (.mv (tm 0)),
 Qd 1 12 (.bin .lss (tm 11) (kz 0))] [0, 1, 5, 12] []
abbrev f84r4 : Pc := .reg [
 Qd 0 13 (.mv (tm 0)),
 Qd 1 14 (.un .neg (tm 13)),
 Qd 2 15 (.mv (tm 5)),
 Qd 3 16 (.un .not (tm 15)),
 Qd 4 0 (.mv (tm 14)),
 Qd 5 5 (.mv (tm 16))] [0, 1, 5] []
abbrev f84r5 : Pc := .reg [
 Qd 0 17 (.mv (tm 1)),
 Qd 1 18 (.bin .lss (tm 17) (kz 0))] [0, 1, 5, 18] []
abbrev f84r6 : Pc := .reg [
 Qd 0 19 (.mv (tm 1)),
 Qd 1 20 (.un .neg (tm 19)),
 Qd 2 21 (.mv (tm 5)),
 Qd 3 22 (.un .not (tm 21)),
 Qd 4 1 (.mv (tm 20)),
 Qd 5 5 (.mv (tm 22))] [0, 1, 5] []
abbrev f84r7 : Pc := .reg [
 Qd 0 23 (.mv (tm 0)),
 Qd 1 24 (.mv (tm 1)),
 Qd 2 25 (.bin .mul (tm 23) (tm 24)),
 Qd 3 26 (.bin .quo (tm 25) (kz 65536)),
 Qd 4 6 (.mv (tm 26))] [5, 6] []
abbrev f84r8 : Pc := .reg [
 Qd 0 27 (.mv (tm 5))] [6, 27] []
abbrev f84r9 : Pc := .reg [
 Qd 0 28 (.mv (tm 6)),
 Qd 1 29 (.un .neg (tm 28)),
 Qd 2 6 (.mv (tm 29))] [6] []
abbrev f84r10 : Pc := .reg [
 Qd 0 30 (.mv (tm 6)),
 Qd 1 31 (.call 83 [(tm 30)]),
 Qd 2 4 (.mv (tm 31))] [4] []
abbrev f84b : Pc := (.seq f84r0 (.seq f84r1 (.seq f84r2 (.seq (.seq f84r3 (.cond (tm 12) f84r4 .skip)) (.seq (.seq f84r5 (.cond (tm 18) f84r6 .skip)) (.seq f84r7 (.seq (.seq f84r8 (.cond (tm 27) f84r9 .skip)) (.seq f84r10 .ret))))))))
abbrev f84 : Pfn := ⟨2, 32, [.tmp 4], f84b⟩
def f84K : Array (List Nat) := #[[0, 1], [0, 1], [0, 1, 5], [0, 1, 5, 12], [0, 1, 5], [0, 1, 5, 18], [0, 1, 5], [5, 6], [6, 27], [6], [4]]
def f84H : Array (List Nat) := #[[], [], [], [], [], [], [], [], [], [], []]
def f84A : Ann := ⟨fun r => f84K.getD r [], fun r => f84H.getD r [], fun r i => ([] : List (Nat × Nat)).contains (r, i)⟩
theorem f84C : compF Go.Proofs.Tryz.prog f84A 84 = some f84 := by kernel_rfl

abbrev f85r0 : Pc := .reg [
 Qd 0 2 (.nilv 3 1)] [0] [2, 3, 22]
abbrev f85r1 : Pc := .reg [
 Qd 0 3 (.nilv 3 1)] [0, 3] []
abbrev f85r2 : Pc := .reg [
 Qd 0 4 (.mv (kz 0))] [0, 3, 4] []
abbrev f85r3 : Pc := .reg [
 Qd 0 6 (.mv (tm 4)),
 Qd 1 7 (.mv (tm 0)),
 Qd 2 8 (.lenL (tm 7)),
 Qd 3 9 (.bin .lss (tm 6) (tm 8))] [0, 3, 4, 9] []
abbrev f85r5 : Pc := .reg [
 Qd 0 12 (.mv (tm 0)),
 Qd 1 13 (.mv (tm 4)),
 Qd 2 14 (.ixS 1 (tm 12) (tm 13)),
 Qd 3 15 (.load false 1 (tm 14)),
 Qd 4 16 (.call 83 [(tm 15)]),
 Qd 5 5 (.mv (tm 16))] [0, 3, 4, 5] []
abbrev f85r6 : Pc := .reg [
 Qd 0 17 (.mv (tm 5)),
 Qd 1 18 (.bin .lss (tm 17) (kz 0))] [0, 3, 4, 5, 18] []
abbrev f85r7 : Pc := .reg [
 Qd 0 5 (.mv (kz 0))] [0, 3, 4, 5] []
abbrev f85r8 : Pc := .reg [
 Qd 0 19 (.mv (tm 3)),
 Qd 1 20 (.mv (tm 5)),
 Qd 2 21 (.bslT 1 [(tm 20)]),
 Qd 3 22 (.app 3 1 8 (tm 19) (tm 21)),
 Qd 4 3 (.mv (tm 22))] [0, 3, 4] []
abbrev f85r4 : Pc := .reg [
 Qd 0 10 (.mv (tm 4)),
 Qd 1 11 (.bin .add (tm 10) (kz 1)),
 Qd 2 4 (.mv (tm 11))] [0, 3, 4] []
def f85l0 : Pc := (.seq (.seq f85r3 (.cond (tm 9) .skip (.exit 0))) (.seq (.block 1 (.seq f85r5 (.seq (.seq f85r6 (.cond (tm 18) f85r7 .skip)) f85r8))) f85r4))
theorem f85l0e (C : Cfg) (s : St) : evL C f85l0 s = evL C (.seq (.seq f85r3 (.cond (tm 9) .skip (.exit 0))) (.seq (.block 1 (.seq f85r5 (.seq (.seq f85r6 (.cond (tm 18) f85r7 .skip)) f85r8))) f85r4)) s := rfl
abbrev f85r9 : Pc := .reg [
 Qd 0 23 (.mv (tm 3)),
 Qd 1 2 (.mv (tm 23))] [2] []
abbrev f85b : Pc := (.seq f85r0 (.seq f85r1 (.seq (.seq f85r2 (.block 0 (.loop f85l0))) (.seq f85r9 .ret))))
abbrev f85 : Pfn := ⟨1, 24, [.tmp 2], f85b⟩
def f85K : Array (List Nat) := #[[0], [0, 3], [0, 3, 4], [0, 3, 4, 9], [0, 3, 4], [0, 3, 4, 5], [0, 3, 4, 5, 18], [0, 3, 4, 5], [0, 3, 4], [2]]
def f85H : Array (List Nat) := #[[2, 3, 22], [], [], [], [], [], [], [], [], []]
def f85A : Ann := ⟨fun r => f85K.getD r [], fun r => f85H.getD r [], fun r i => ([] : List (Nat × Nat)).contains (r, i)⟩
theorem f85C : compF Go.Proofs.Tryz.prog f85A 85 = some f85 := by kernel_rfl

abbrev f86r0 : Pc := .reg [
 Qd 0 6 (.nilv 9 1)] [0, 1, 2] [6]
abbrev f86r1 : Pc := .reg [
 Qd 0 8 (.mv (tm 0)),
 Qd 1 9 (.mv (tm 1)),
 Qd 2 10 (.mv (tm 2)),
 Qd 3 11 (.mv (tm 0)),
 Qd 4 12 (.lenL (tm 11)),
 Qd 5 13 (.sl3 (tm 8) (tm 9) (tm 10) (tm 12))] [0, 1, 2] []
abbrev f86r2 : Pc := .reg [
 Qd 0 14 (.mv (tm 1)),
 Qd 1 15 (.mv (tm 2)),
 Qd 2 16 (.bin .eql (tm 14) (tm 15))] [0, 1, 2, 16] []
abbrev f86r3 : Pc := .reg [
 Qd 0 17 (.mv (tm 0)),
 Qd 1 6 (.mv (tm 17))] [6] []
abbrev f86r4 : Pc := .reg [
 Qd 0 18 (.mv (tm 0)),
 Qd 1 19 (.lenL (tm 18)),
 Qd 2 7 (.mv (tm 19))] [0, 1, 2, 7] []
abbrev f86r5 : Pc := .reg [
 Qd 0 20 (.mv (tm 0)),
 Qd 1 21 (.mv (tm 1)),
 Qd 2 22 (.sls 1 (tm 20) none (some (tm 21))),
 Qd 3 23 (.mv (tm 0)),
 Qd 4 24 (.mv (tm 2)),
 Qd 5 25 (.sls 1 (tm 23) (some (tm 24)) none),
 Qd 6 26 (.app 9 1 16 (tm 22) (tm 25)),
 Qd 7 0 (.mv (tm 26))] [0, 7] []
abbrev f86r6 : Pc := .reg [
 Qd 0 27 (.mv (tm 0)),
 Qd 1 28 (.mv (tm 0)),
 Qd 2 29 (.lenL (tm 28)),
 Qd 3 30 (.mv (tm 7)),
 Qd 4 31 (.sls 1 (tm 27) (some (tm 29)) (some (tm 30))),
 Qn 5 (.clr 1 (tm 31))] [0] []
abbrev f86r7 : Pc := .reg [
 Qd 0 32 (.mv (tm 0)),
 Qd 1 6 (.mv (tm 32))] [6] []
abbrev f86b : Pc := (.seq f86r0 (.seq f86r1 (.seq (.seq f86r2 (.cond (tm 16) (.seq f86r3 .ret) .skip)) (.seq f86r4 (.seq f86r5 (.seq f86r6 (.seq f86r7 .ret)))))))
abbrev f86 : Pfn := ⟨3, 33, [.tmp 6], f86b⟩
def f86K : Array (List Nat) := #[[0, 1, 2], [0, 1, 2], [0, 1, 2, 16], [6], [0, 1, 2, 7], [0, 7], [0], [6]]
def f86H : Array (List Nat) := #[[6], [], [], [], [], [], [], []]
def f86A : Ann := ⟨fun r => f86K.getD r [], fun r => f86H.getD r [], fun r i => ([] : List (Nat × Nat)).contains (r, i)⟩
theorem f86C : compF Go.Proofs.Tryz.prog f86A 86 = some f86 := by kernel_rfl

abbrev f87r0 : Pc := .reg [
 Qd 0 4 (.mv (kz 0))] [0, 1] []
abbrev f87r1 : Pc := .reg [
 Qd 0 5 (.mv (kz 0))] [0, 1, 5] []
abbrev f87r2 : Pc := .reg [
 Qd 0 6 (.mv (kz 3))] [0, 1, 5, 6] []
abbrev f87r3 : Pc := .reg [
 Qd 0 7 (.mv (tm 6)),
 Qd 1 8 (.bin .geq (tm 7) (kz 0))] [0, 1, 5, 6, 8] []
abbrev f87r5 : Pc := .reg [
 Qd 0 11 (.mv (tm 5)),
 Qd 1 12 (.bin .shl (tm 11) (.c (.t (.i .u64 8)))),
 Qd 2 13 (.mv (tm 0)),
 Qd 3 14 (.mv (tm 1)),
 Qd 4 15 (.bin .mul (kz 4) (tm 14)),
 Qd 5 16 (.mv (tm 6)),
 Qd 6 17 (.bin .add (tm 15) (tm 16)),
 Qd 7 18 (.ixs (tm 13) (tm 17)),
 Qd 8 19 (.cvi .i64 (tm 18)),
 Qd 9 20 (.bin .or (tm 12) (tm 19)),
 Qd 10 5 (.mv (tm 20))] [0, 1, 5, 6] []
abbrev f87r4 : Pc := .reg [
 Qd 0 9 (.mv (tm 6)),
 Qd 1 10 (.bin .sub (tm 9) (kz 1)),
 Qd 2 6 (.mv (tm 10))] [0, 1, 5, 6] []
def f87l0 : Pc := (.seq (.seq f87r3 (.cond (tm 8) .skip (.exit 0))) (.seq (.block 1 f87r5) f87r4))
theorem f87l0e (C : Cfg) (s : St) : evL C f87l0 s = evL C (.seq (.seq f87r3 (.cond (tm 8) .skip (.exit 0))) (.seq (.block 1 f87r5) f87r4)) s := rfl
abbrev f87r6 : Pc := .reg [
 Qd 0 21 (.mv (tm 5)),
 Qd 1 4 (.mv (tm 21))] [4] []
abbrev f87b : Pc := (.seq f87r0 (.seq f87r1 (.seq (.seq f87r2 (.block 0 (.loop f87l0))) (.seq f87r6 .ret))))
abbrev f87 : Pfn := ⟨2, 22, [.tmp 4], f87b⟩
def f87K : Array (List Nat) := #[[0, 1], [0, 1, 5], [0, 1, 5, 6], [0, 1, 5, 6, 8], [0, 1, 5, 6], [0, 1, 5, 6], [4]]
def f87H : Array (List Nat) := #[[], [], [], [], [], [], []]
def f87A : Ann := ⟨fun r => f87K.getD r [], fun r => f87H.getD r [], fun r i => ([] : List (Nat × Nat)).contains (r, i)⟩
theorem f87C : compF Go.Proofs.Tryz.prog f87A 87 = some f87 := by kernel_rfl

abbrev f88r0 : Pc := .reg [
 Qd 0 2 (.mv (kz 0))] [0] []
abbrev f88r1 : Pc := .reg [
 Qd 0 3 (.mv (.c (.t (.i .u32 4294967295))))] [0, 3] []
abbrev f88r2 : Pc := .reg [
 Qd 0 7 (.mv (tm 0)),
 Qd 1 8 (.sbs 5 (tm 7)),
 Qd 2 9 (.lenL (tm 8)),
 Qd 3 10 (.mv (kz 0))] [3, 8, 9, 10] []
abbrev f88r3 : Pc := .reg [
 Qd 0 11 (.bin .lss (tm 10) (tm 9))] [3, 8, 9, 10, 11] []
abbrev f88r4 : Pc := .reg [
 Qd 0 12 (.ixS 1 (tm 8) (tm 10)),
 Qd 1 13 (.load false 1 (tm 12)),
 Qd 2 5 (.mv (tm 13))] [3, 5, 8, 9, 10] []
abbrev f88r5 : Pc := .reg [
 Qd 0 14 (.mv (tm 3)),
 Qd 1 15 (.mv (tm 5)),
 Qd 2 16 (.cvi .u32 (tm 15)),
 Qd 3 17 (.bin .xor (tm 14) (tm 16)),
 Qd 4 3 (.mv (tm 17))] [3, 8, 9, 10] []
abbrev f88r6 : Pc := .reg [
 Qd 0 18 (.mv (kz 0))] [3, 8, 9, 10, 18] []
abbrev f88r7 : Pc := .reg [
 Qd 0 19 (.bin .lss (tm 18) (kz 8))] [3, 8, 9, 10, 18, 19] []
abbrev f88r8 : Pc := .reg [
 Qd 0 20 (.mv (tm 3)),
 Qd 1 21 (.bin .and (tm 20) (.c (.t (.i .u32 1)))),
 Qd 2 6 (.mv (tm 21))] [3, 6, 8, 9, 10, 18] []
abbrev f88r9 : Pc := .reg [
 Qd 0 22 (.mv (tm 3)),
 Qd 1 23 (.bin .shr (tm 22) (.c (.t (.i .u64 1)))),
 Qd 2 3 (.mv (tm 23))] [3, 6, 8, 9, 10, 18] []
abbrev f88r10 : Pc := .reg [
 Qd 0 24 (.mv (tm 3)),
 Qd 1 25 (.mv (tm 6)),
 Qd 2 26 (.bin .mul (.c (.t (.i .u32 3988292384))) (tm 25)),
 Qd 3 27 (.bin .xor (tm 24) (tm 26)),
 Qd 4 3 (.mv (tm 27))] [3, 8, 9, 10, 18] []
abbrev f88r11 : Pc := .reg [
 Qd 0 28 (.bin .add (tm 18) (kz 1)),
 Qd 1 18 (.mv (tm 28))] [3, 8, 9, 10, 18] []
def f88l0 : Pc := (.seq f88r7 (.seq (.cond (tm 19) .skip (.exit 2)) (.seq (.block 3 (.seq f88r8 (.seq f88r9 f88r10))) f88r11)))
theorem f88l0e (C : Cfg) (s : St) : evL C f88l0 s = evL C (.seq f88r7 (.seq (.cond (tm 19) .skip (.exit 2)) (.seq (.block 3 (.seq f88r8 (.seq f88r9 f88r10))) f88r11))) s := rfl
abbrev f88r12 : Pc := .reg [
 Qd 0 29 (.bin .add (tm 10) (kz 1)),
 Qd 1 10 (.mv (tm 29))] [3, 8, 9, 10] []
def f88l1 : Pc := (.seq f88r3 (.seq (.cond (tm 11) .skip (.exit 0)) (.seq (.block 1 (.seq f88r4 (.seq f88r5 (.seq f88r6 (.block 2 (.loop f88l0)))))) f88r12)))
theorem f88l1e (C : Cfg) (s : St) : evL C f88l1 s = evL C (.seq f88r3 (.seq (.cond (tm 11) .skip (.exit 0)) (.seq (.block 1 (.seq f88r4 (.seq f88r5 (.seq f88r6 (.block 2 (.loop f88l0)))))) f88r12))) s := rfl
abbrev f88r13 : Pc := .reg [
 Qd 0 30 (.mv (tm 3)),
 Qd 1 31 (.bin .xor (tm 30) (.c (.t (.i .u32 4294967295)))),
 Qd 2 32 (.cvi .i64 (tm 31)),
 Qd 3 2 (.mv (tm 32))] [2] [8]
abbrev f88b : Pc := (.seq f88r0 (.seq f88r1 (.seq (.seq f88r2 (.block 0 (.loop f88l1))) (.seq f88r13 .ret))))
abbrev f88 : Pfn := ⟨1, 33, [.tmp 2], f88b⟩
def f88K : Array (List Nat) := #[[0], [0, 3], [3, 8, 9, 10], [3, 8, 9, 10, 11], [3, 5, 8, 9, 10], [3, 8, 9, 10], [3, 8, 9, 10, 18], [3, 8, 9, 10, 18, 19], [3, 6, 8, 9, 10, 18], [3, 6, 8, 9, 10, 18], [3, 8, 9, 10, 18], [3, 8, 9, 10, 18], [3, 8, 9, 10], [2]]
def f88H : Array (List Nat) := #[[], [], [], [], [], [], [], [], [], [], [], [], [], [8]]
def f88A : Ann := ⟨fun r => f88K.getD r [], fun r => f88H.getD r [], fun r i => ([] : List (Nat × Nat)).contains (r, i)⟩
theorem f88C : compF Go.Proofs.Tryz.prog f88A 88 = some f88 := by kernel_rfl

abbrev f89r0 : Pc := .reg [
 Qd 0 2 (.mv (kz 0))] [0] []
abbrev f89r1 : Pc := .reg [
 Qd 0 3 (.mv (tm 0)),
 Qd 1 4 (.cvi .i32 (tm 3)),
 Qd 2 5 (.cvi .i64 (tm 4)),
 Qd 3 2 (.mv (tm 5))] [2] []
abbrev f89b : Pc := (.seq f89r0 (.seq f89r1 .ret))
abbrev f89 : Pfn := ⟨1, 6, [.tmp 2], f89b⟩
def f89K : Array (List Nat) := #[[0], [2]]
def f89H : Array (List Nat) := #[[], []]
def f89A : Ann := ⟨fun r => f89K.getD r [], fun r => f89H.getD r [], fun r i => ([] : List (Nat × Nat)).contains (r, i)⟩
theorem f89C : compF Go.Proofs.Tryz.prog f89A 89 = some f89 := by kernel_rfl

abbrev f90r0 : Pc := .reg [
 Qd 0 1 (.box 44 11 (tm 0)),
 Qd 1 2 (.mv kF)] [1] []
abbrev f90r1 : Pc := .reg [
 Qd 0 7 (.load true 11 (tm 1)),
 Qd 1 8 (.call 117 [(tm 7)]),
 Qd 2 9 (.lenL (tm 8)),
 Qd 3 10 (.mv (kz 0))] [1, 8, 9, 10] []
abbrev f90r2 : Pc := .reg [
 Qd 0 11 (.bin .lss (tm 10) (tm 9))] [1, 8, 9, 10, 11] []
abbrev f90r3 : Pc := .reg [
 Qd 0 12 (.ixS 1 (tm 8) (tm 10)),
 Qd 1 13 (.load false 1 (tm 12)),
 Qd 2 4 (.mv (tm 13))] [1, 4, 8, 9, 10] []
abbrev f90r4 : Pc := .reg [
 Qd 0 14 (.mv (tm 4)),
 Qd 1 15 (.bin .lss (tm 14) (kz 0)),
 Qd 2 16 (.mv (tm 15)),
 Gf 3 17 16 (.mv (tm 4)),
 Gf 4 18 16 (.bin .gtr (tm 17) (kz 2147483647)),
 Qd 5 19 (.pick (tm 16) kT (tm 18))] [1, 8, 9, 10, 19] []
abbrev f90r5 : Pc := .reg [
 Qd 0 2 (.mv kF)] [2] [1, 8]
abbrev f90r6 : Pc := .reg [
 Qd 0 20 (.bin .add (tm 10) (kz 1)),
 Qd 1 10 (.mv (tm 20))] [1, 8, 9, 10] []
def f90l0 : Pc := (.seq f90r2 (.seq (.cond (tm 11) .skip (.exit 0)) (.seq (.block 1 (.seq f90r3 (.seq f90r4 (.cond (tm 19) (.seq f90r5 .ret) .skip)))) f90r6)))
theorem f90l0e (C : Cfg) (s : St) : evL C f90l0 s = evL C (.seq f90r2 (.seq (.cond (tm 11) .skip (.exit 0)) (.seq (.block 1 (.seq f90r3 (.seq f90r4 (.cond (tm 19) (.seq f90r5 .ret) .skip)))) f90r6))) s := rfl
abbrev f90r7 : Pc := .reg [
 Qd 0 21 (.fad 10 (tm 1)),
 Qd 1 22 (.load false 1 (tm 21)),
 Qd 2 23 (.lenL (tm 22)),
 Qd 3 24 (.mv (kz 0))] [1, 22, 23, 24] [8]
abbrev f90r8 : Pc := .reg [
 Qd 0 25 (.bin .lss (tm 24) (tm 23))] [1, 22, 23, 24, 25] []
abbrev f90r9 : Pc := .reg [
 Qd 0 26 (.ixS 1 (tm 22) (tm 24)),
 Qd 1 27 (.load false 1 (tm 26)),
 Qd 2 6 (.mv (tm 27))] [1, 6, 22, 23, 24] []
abbrev f90r10 : Pc := .reg [
 Qd 0 28 (.mv (tm 6)),
 Qd 1 29 (.bin .lss (tm 28) (kz (-2147483648))),
 Qd 2 30 (.mv (tm 29)),
 Gf 3 31 30 (.mv (tm 6)),
 Gf 4 32 30 (.bin .gtr (tm 31) (kz 2147483647)),
 Qd 5 33 (.pick (tm 30) kT (tm 32))] [1, 22, 23, 24, 33] []
abbrev f90r11 : Pc := .reg [
 Qd 0 2 (.mv kF)] [2] [1]
abbrev f90r12 : Pc := .reg [
 Qd 0 34 (.bin .add (tm 24) (kz 1)),
 Qd 1 24 (.mv (tm 34))] [1, 22, 23, 24] []
def f90l1 : Pc := (.seq f90r8 (.seq (.cond (tm 25) .skip (.exit 2)) (.seq (.block 3 (.seq f90r9 (.seq f90r10 (.cond (tm 33) (.seq f90r11 .ret) .skip)))) f90r12)))
theorem f90l1e (C : Cfg) (s : St) : evL C f90l1 s = evL C (.seq f90r8 (.seq (.cond (tm 25) .skip (.exit 2)) (.seq (.block 3 (.seq f90r9 (.seq f90r10 (.cond (tm 33) (.seq f90r11 .ret) .skip)))) f90r12))) s := rfl
abbrev f90r13 : Pc := .reg [
 Qd 0 35 (.fad 0 (tm 1)),
 Qd 1 36 (.load false 1 (tm 35)),
 Qd 2 37 (.bin .geq (tm 36) (kz 1)),
 Qd 3 38 (.mv (tm 37)),
 Gt 4 39 38 (.fad 0 (tm 1)),
 Gt 5 40 38 (.load false 1 (tm 39)),
 Gt 6 41 38 (.bin .leq (tm 40) (kz 4)),
 Qd 7 42 (.pick (tm 38) (tm 41) kF),
 Qd 8 43 (.mv (tm 42)),
 Gt 9 44 43 (.fad 10 (tm 1)),
 Gt 10 45 43 (.load false 1 (tm 44)),
 Gt 11 46 43 (.lenL (tm 45)),
 Gt 12 47 43 (.bin .leq (tm 46) (kz 8)),
 Qd 13 48 (.pick (tm 43) (tm 47) kF),
 Qd 14 2 (.mv (tm 48))] [2] [1]
abbrev f90b : Pc := (.seq f90r0 (.seq (.seq f90r1 (.block 0 (.loop f90l0))) (.seq (.seq f90r7 (.block 2 (.loop f90l1))) (.seq f90r13 .ret))))
abbrev f90 : Pfn := ⟨1, 49, [.tmp 2], f90b⟩
def f90K : Array (List Nat) := #[[1], [1, 8, 9, 10], [1, 8, 9, 10, 11], [1, 4, 8, 9, 10], [1, 8, 9, 10, 19], [2], [1, 8, 9, 10], [1, 22, 23, 24], [1, 22, 23, 24, 25], [1, 6, 22, 23, 24], [1, 22, 23, 24, 33], [2], [1, 22, 23, 24], [2]]
def f90H : Array (List Nat) := #[[], [], [], [], [], [1, 8], [], [8], [], [], [], [1], [], [1]]
def f90A : Ann := ⟨fun r => f90K.getD r [], fun r => f90H.getD r [], fun r i => ([] : List (Nat × Nat)).contains (r, i)⟩
theorem f90C : compF Go.Proofs.Tryz.prog f90A 90 = some f90 := by kernel_rfl

abbrev f91r0 : Pc := .reg [
 Qd 0 4 (.mv (kz 0))] [0, 1] []
abbrev f91r1 : Pc := .reg [
 Qd 0 6 (.mv (tm 0)),
 Qd 1 7 (.lenL (tm 6)),
 Qd 2 8 (.mv (kz 0))] [0, 1, 7, 8] []
abbrev f91r2 : Pc := .reg [
 Qd 0 9 (.bin .lss (tm 8) (tm 7))] [0, 1, 7, 8, 9] []
abbrev f91r3 : Pc := .reg [
 Qd 0 10 (.mv (tm 8)),
 Qd 1 5 (.mv (tm 10))] [0, 1, 5, 7, 8] []
abbrev f91r4 : Pc := .reg [
 Qd 0 11 (.mv (tm 1)),
 Qd 1 12 (.mv (tm 0)),
 Qd 2 13 (.mv (tm 5)),
 Qd 3 14 (.ixS 4 (tm 12) (tm 13)),
 Qd 4 15 (.load true 4 (tm 14)),
 Qd 5 16 (.callv (tm 11) [(tm 15)])] [0, 1, 5, 7, 8, 16] []
abbrev f91r5 : Pc := .reg [
 Qd 0 17 (.mv (tm 5)),
 Qd 1 4 (.mv (tm 17))] [4] []
abbrev f91r6 : Pc := .reg [
 Qd 0 18 (.bin .add (tm 8) (kz 1)),
 Qd 1 8 (.mv (tm 18))] [0, 1, 7, 8] []
def f91l0 : Pc := (.seq f91r2 (.seq (.cond (tm 9) .skip (.exit 0)) (.seq (.block 1 (.seq f91r3 (.seq f91r4 (.cond (tm 16) (.seq f91r5 .ret) .skip)))) f91r6)))
theorem f91l0e (C : Cfg) (s : St) : evL C f91l0 s = evL C (.seq f91r2 (.seq (.cond (tm 9) .skip (.exit 0)) (.seq (.block 1 (.seq f91r3 (.seq f91r4 (.cond (tm 16) (.seq f91r5 .ret) .skip)))) f91r6))) s := rfl
abbrev f91r7 : Pc := .reg [
 Qd 0 4 (.mv (kz (-1)))] [4] []
abbrev f91b : Pc := (.seq f91r0 (.seq (.seq f91r1 (.block 0 (.loop f91l0))) (.seq f91r7 .ret)))
abbrev f91 : Pfn := ⟨2, 19, [.tmp 4], f91b⟩
def f91K : Array (List Nat) := #[[0, 1], [0, 1, 7, 8], [0, 1, 7, 8, 9], [0, 1, 5, 7, 8], [0, 1, 5, 7, 8, 16], [4], [0, 1, 7, 8], [4]]
def f91H : Array (List Nat) := #[[], [], [], [], [], [], [], []]
def f91A : Ann := ⟨fun r => f91K.getD r [], fun r => f91H.getD r [], fun r i => ([] : List (Nat × Nat)).contains (r, i)⟩
theorem f91C : compF Go.Proofs.Tryz.prog f91A 91 = some f91 := by kernel_rfl

abbrev f92r0 : Pc := .reg [
 Qd 0 2 (.box 110 4 (tm 0)),
 Qd 1 3 (.mv kF)] [1, 2] []
abbrev f92r1 : Pc := .reg [
 Qd 0 4 (.fad 0 (tm 2)),
 Qd 1 5 (.load false 1 (tm 4)),
 Qd 2 6 (.fad 6 (tm 1)),
 Qd 3 7 (.load false 1 (tm 6)),
 Qd 4 8 (.bin .eql (tm 5) (tm 7)),
 Qd 5 9 (.mv (tm 8)),
 Gt 6 10 9 (.fad 1 (tm 2)),
 Gt 7 11 9 (.load false 1 (tm 10)),
 Gt 8 12 9 (.fad 7 (tm 1)),
 Gt 9 13 9 (.load false 1 (tm 12)),
 Gt 10 14 9 (.bin .eql (tm 11) (tm 13)),
 Qd 11 15 (.pick (tm 9) (tm 14) kF),
 Qd 12 16 (.mv (tm 15)),
 Gt 13 17 16 (.fad 2 (tm 2)),
 Gt 14 18 16 (.load false 1 (tm 17)),
 Gt 15 19 16 (.fad 8 (tm 1)),
 Gt 16 20 16 (.load false 1 (tm 19)),
 Gt 17 21 16 (.bin .eql (tm 18) (tm 20)),
 Qd 18 22 (.pick (tm 16) (tm 21) kF),
 Qd 19 3 (.mv (tm 22))] [3] [2]
abbrev f92b : Pc := (.seq f92r0 (.seq f92r1 .ret))
abbrev f92 : Pfn := ⟨2, 23, [.tmp 3], f92b⟩
def f92K : Array (List Nat) := #[[1, 2], [3]]
def f92H : Array (List Nat) := #[[], [2]]
def f92A : Ann := ⟨fun r => f92K.getD r [], fun r => f92H.getD r [], fun r i => ([] : List (Nat × Nat)).contains (r, i)⟩
theorem f92C : compF Go.Proofs.Tryz.prog f92A 92 = some f92 := by kernel_rfl

abbrev f93r0 : Pc := .reg [
 Qd 0 4 (.box 24 2 (tm 0)),
 Qd 1 5 (.box 27 2 (tm 1)),
 Qd 2 7 (.box 44 11 (tm 3)),
 Qd 3 8 (.mv kF)] [2, 4, 5, 7] []
abbrev f93r1 : Pc := .reg [
 Qd 0 9 (.load true 2 (tm 4)),
 Qd 1 10 (.callq 30 [(tm 9)]),
 Qd 2 11 (.mv (tm 10)),
 Gt 3 12 11 (.load true 2 (tm 5)),
 Gt 4 13 11 (.callq 32 [(tm 12)]),
 Qd 5 14 (.pick (tm 11) (tm 13) kF),
 Qd 6 15 (.mv (tm 14)),
 Gt 7 16 15 (.load true 11 (tm 7)),
 Gt 8 17 15 (.callq 90 [(tm 16)]),
 Qd 9 18 (.pick (tm 15) (tm 17) kF),
 Qd 10 19 (.mv (tm 18)),
 Gt 11 20 19 (.fad 0 (tm 7)),
 Gt 12 21 19 (.load false 1 (tm 20)),
 Gt 13 22 19 (.bin .eql (tm 21) (kz 1)),
 Qd 14 23 (.pick (tm 19) (tm 22) kF),
 Qd 15 24 (.mv (tm 23)),
 Gt 16 25 24 (.fad 2 (tm 7)),
 Gt 17 26 24 (.load false 1 (tm 25)),
 Gt 18 27 24 (.mv (tm 2)),
 Gt 19 28 24 (.bin .eql (tm 26) (tm 27)),
 Qd 20 29 (.pick (tm 24) (tm 28) kF),
 Qd 21 30 (.mv (tm 29)),
 Gt 22 31 30 (.fad 5 (tm 7)),
 Gt 23 32 30 (.load false 1 (tm 31)),
 Gt 24 33 30 (.fad 1 (tm 4)),
 Gt 25 34 30 (.load false 1 (tm 33)),
 Gt 26 35 30 (.lenL (tm 34)),
 Gt 27 36 30 (.bin .lss (tm 32) (tm 35)),
 Qd 28 37 (.pick (tm 30) (tm 36) kF),
 Qd 29 38 (.mv (tm 37)),
 Gt 30 39 38 (.fad 8 (tm 7)),
 Gt 31 40 38 (.load false 1 (tm 39)),
 Gt 32 41 38 (.fad 1 (tm 4)),
 Gt 33 42 38 (.load false 1 (tm 41)),
 Gt 34 43 38 (.fad 5 (tm 7)),
 Gt 35 44 38 (.load false 1 (tm 43)),
 Gt 36 45 38 (.ixS 3 (tm 42) (tm 44)),
 Gt 37 46 38 (.fad 1 (tm 45)),
 Gt 38 47 38 (.load false 1 (tm 46)),
 Gt 39 48 38 (.lenL (tm 47)),
 Gt 40 49 38 (.bin .lss (tm 40) (tm 48)),
 Qd 41 50 (.pick (tm 38) (tm 49) kF),
 Qd 42 51 (.mv (tm 50)),
 Gt 43 52 51 (.load true 2 (tm 4)),
 Gt 44 53 51 (.fad 10 (tm 7)),
 Gt 45 54 51 (.load false 1 (tm 53)),
 Gt 46 55 51 (.bslF 1 [(tm 54)]),
 Gt 47 56 51 (.callq 31 [(tm 52), (tm 55)]),
 Qd 48 57 (.pick (tm 51) (tm 56) kF),
 Qd 49 8 (.mv (tm 57))] [8] [4, 5, 7]
abbrev f93b : Pc := (.seq f93r0 (.seq f93r1 .ret))
abbrev f93 : Pfn := ⟨4, 58, [.tmp 8], f93b⟩
def f93K : Array (List Nat) := #[[2, 4, 5, 7], [8]]
def f93H : Array (List Nat) := #[[], [4, 5, 7]]
def f93A : Ann := ⟨fun r => f93K.getD r [], fun r => f93H.getD r [], fun r i => ([] : List (Nat × Nat)).contains (r, i)⟩
theorem f93C : compF Go.Proofs.Tryz.prog f93A 93 = some f93 := by kernel_rfl

abbrev f94r0 : Pc := .reg [
 Qd 0 3 (.box 137 4 (tm 1)),
 Qd 1 4 (.nilv 3 1),
 Qd 2 5 (.mv kF)] [0, 3] [4, 17]
abbrev f94r1 : Pc := .reg [
 Qd 0 7 (.mv (tm 0)),
 Qd 1 8 (.mkfn 119 [(tm 3)]),
 Qd 2 9 (.call 118 [(tm 7), (tm 8)]),
 Qd 3 6 (.mv (tm 9))] [0, 6] []
abbrev f94r2 : Pc := .reg [
 Qd 0 10 (.mv (tm 6)),
 Qd 1 11 (.bin .lss (tm 10) (kz 0))] [0, 6, 11] []
abbrev f94r3 : Pc := .reg [
 Qd 0 4 (.nilv 3 1),
 Qd 1 5 (.mv kF)] [4, 5] [3]
abbrev f94r4 : Pc := .reg [
 Qd 0 12 (.mv (tm 0)),
 Qd 1 13 (.mv (tm 6)),
 Qd 2 14 (.ixS 5 (tm 12) (tm 13)),
 Qd 3 15 (.fad 4 (tm 14)),
 Qd 4 16 (.load false 1 (tm 15)),
 Qd 5 17 (.call 58 [(tm 16)]),
 Qd 6 4 (.mv (tm 17)),
 Qd 7 5 (.mv kT)] [4, 5] [3]
abbrev f94b : Pc := (.seq f94r0 (.seq f94r1 (.seq (.seq f94r2 (.cond (tm 11) (.seq f94r3 .ret) .skip)) (.seq f94r4 .ret))))
abbrev f94 : Pfn := ⟨2, 18, [.tmp 4, .tmp 5], f94b⟩
def f94K : Array (List Nat) := #[[0, 3], [0, 6], [0, 6, 11], [4, 5], [4, 5]]
def f94H : Array (List Nat) := #[[4, 17], [], [], [3], [3]]
def f94A : Ann := ⟨fun r => f94K.getD r [], fun r => f94H.getD r [], fun r i => ([] : List (Nat × Nat)).contains (r, i)⟩
theorem f94C : compF Go.Proofs.Tryz.prog f94A 94 = some f94 := by kernel_rfl

abbrev f95r0 : Pc := .reg [
 Qd 0 2 (.box 67 2 (tm 0)),
 Qd 1 4 (.nilv 3 1),
 Qd 2 5 (.mv kF)] [1, 2] [4]
abbrev f95r1 : Pc := .reg [
 Qd 0 8 (.load true 2 (tm 2)),
 Qd 1 9 (.mv (tm 1)),
 Qd 2 10 (.lenL (tm 9)),
 Qd 3 11 (.call 107 [(tm 8), (tm 10)]),
 Qd 4 12 (.un .not (tm 11))] [1, 2, 12] []
abbrev f95r2 : Pc := .reg [
 Qd 0 4 (.nilv 3 1),
 Qd 1 5 (.mv kF)] [4, 5] [2]
abbrev f95r3 : Pc := .reg [
 Qd 0 14 (.fad 0 (tm 2)),
 Qd 1 15 (.load false 1 (tm 14)),
 Qd 2 16 (.mv (tm 1)),
 Qd 3 17 (.call 120 [(tm 15), (tm 16)]),
 Qd 4 13 (.mv (tm 17)),
 Qd 5 18 (.ext 0 (tm 13)),
 Qd 6 19 (.ext 1 (tm 13)),
 Qd 7 6 (.mv (tm 18)),
 Qd 8 7 (.mv (tm 19))] [2, 6] []
abbrev f95r4 : Pc := .reg [
 Qd 0 20 (.fad 1 (tm 2)),
 Qd 1 21 (.load false 1 (tm 20)),
 Qd 2 22 (.mv (tm 6)),
 Qd 3 23 (.callq 121 [(tm 22)]),
 Qd 4 24 (.callq 120 [(tm 21), (tm 23)]),
 Qd 5 25 (.ext 0 (tm 24)),
 Qd 6 26 (.ext 1 (tm 24)),
 Qd 7 4 (.mv (tm 25)),
 Qd 8 5 (.mv (tm 26))] [4, 5] [2]
abbrev f95b : Pc := (.seq f95r0 (.seq (.seq f95r1 (.cond (tm 12) (.seq f95r2 .ret) .skip)) (.seq f95r3 (.seq f95r4 .ret))))
abbrev f95 : Pfn := ⟨2, 27, [.tmp 4, .tmp 5], f95b⟩
def f95K : Array (List Nat) := #[[1, 2], [1, 2, 12], [4, 5], [2, 6], [4, 5]]
def f95H : Array (List Nat) := #[[4], [], [2], [], [2]]
def f95A : Ann := ⟨fun r => f95K.getD r [], fun r => f95H.getD r [], fun r i => ([] : List (Nat × Nat)).contains (r, i)⟩
theorem f95C : compF Go.Proofs.Tryz.prog f95A 95 = some f95 := by kernel_rfl

abbrev f96r0 : Pc := .reg [
 Qd 0 4 (.box 137 4 (tm 1)),
 Qd 1 6 (.nilv 165 5),
 Qd 2 7 (.mv kF)] [0, 2, 4] [6, 19, 25]
abbrev f96r1 : Pc := .reg [
 Qd 0 11 (.mv (tm 0)),
 Qd 1 12 (.load true 4 (tm 4)),
 Qd 2 13 (.call 94 [(tm 11), (tm 12)]),
 Qd 3 10 (.mv (tm 13)),
 Qd 4 14 (.ext 0 (tm 10)),
 Qd 5 15 (.ext 1 (tm 10)),
 Qd 6 8 (.mv (tm 14)),
 Qd 7 9 (.mv (tm 15))] [0, 2, 4, 9] []
abbrev f96r2 : Pc := .reg [
 Qd 0 16 (.mv (tm 9))] [0, 2, 4, 16] []
abbrev f96r3 : Pc := .reg [
 Qd 0 17 (.mv (tm 0)),
 Qd 1 6 (.mv (tm 17)),
 Qd 2 7 (.mv kF)] [6, 7] [4]
abbrev f96r4 : Pc := .reg [
 Qd 0 18 (.mv (tm 0)),
 Qd 1 19 (.callo 122 [(tm 18)]),
 Qd 2 20 (.loadB true 4 (tm 4)),
 Qd 3 21 (.mv (tm 2)),
 Qd 4 22 (.callq 58 [(tm 21)]),
 Qd 5 23 (.build [(.t (.i .i64 0)), (.t (.i .i64 0)), (.t (.i .i64 0)), (.t (.i .i64 0)), .nl] [(0, 4, (tm 20)), (4, 1, (tm 22))]),
 Qd 6 24 (.bslT 5 [(tm 23)]),
 Qd 7 25 (.app 165 5 56 (tm 19) (tm 24)),
 Qd 8 6 (.mv (tm 25)),
 Qd 9 7 (.mv kT)] [6, 7] [4]
abbrev f96b : Pc := (.seq f96r0 (.seq (.seq f96r1 (.seq f96r2 (.cond (tm 16) (.seq f96r3 .ret) .skip))) (.seq f96r4 .ret)))
abbrev f96 : Pfn := ⟨3, 26, [.tmp 6, .tmp 7], f96b⟩
def f96K : Array (List Nat) := #[[0, 2, 4], [0, 2, 4, 9], [0, 2, 4, 16], [6, 7], [6, 7]]
def f96H : Array (List Nat) := #[[6, 19, 25], [], [], [4], [4]]
def f96A : Ann := ⟨fun r => f96K.getD r [], fun r => f96H.getD r [], fun r i => ([(4, 1), (4, 2)] : List (Nat × Nat)).contains (r, i)⟩
theorem f96C : compF Go.Proofs.Tryz.prog f96A 96 = some f96 := by kernel_rfl

abbrev f97r0 : Pc := .reg [
 Qd 0 1 (.box 44 11 (tm 0)),
 Qd 1 2 (.mv (.c (.t (.s [])))),
 Qd 2 3 (.mv (kz 0))] [1] []
abbrev f97r1 : Pc := .reg [
 Qd 0 7 (.load true 11 (tm 1)),
 Qd 1 8 (.call 90 [(tm 7)]),
 Qd 2 9 (.un .not (tm 8))] [1, 9] []
abbrev f97r2 : Pc := .reg [
 Qd 0 2 (.mv (.c (.t (.s [])))),
 Qd 1 3 (.mv (kz 1))] [2, 3] [1]
abbrev f97r3 : Pc := .reg [
 Qd 0 4 (.mv (.c (.t (.s []))))] [1, 4] []
abbrev f97r4 : Pc := .reg [
 Qd 0 10 (.load true 11 (tm 1)),
 Qd 1 11 (.callo 117 [(tm 10)]),
 Qd 2 12 (.fad 10 (tm 1)),
 Qd 3 13 (.loadB false 1 (tm 12)),
 Qd 4 14 (.lenL (tm 13)),
 Qd 5 15 (.bslF 1 [(tm 14)]),
 Qd 6 16 (.appU 3 1 8 (tm 11) (tm 15)),
 Qd 7 17 (.fad 10 (tm 1)),
 Qd 8 18 (.loadB false 1 (tm 17)),
 Qd 9 19 (.app 3 1 8 (tm 16) (tm 18)),
 Qd 10 20 (.lenL (tm 19)),
 Qd 11 21 (.mv (kz 0))] [4, 19, 20, 21] [1]
abbrev f97r5 : Pc := .reg [
 Qd 0 22 (.bin .lss (tm 21) (tm 20))] [4, 19, 20, 21, 22] []
abbrev f97r6 : Pc := .reg [
 Qd 0 23 (.ixS 1 (tm 19) (tm 21)),
 Qd 1 24 (.load false 1 (tm 23)),
 Qd 2 6 (.mv (tm 24))] [4, 6, 19, 20, 21] []
abbrev f97r7 : Pc := .reg [
 Qd 0 25 (.mv (tm 4)),
 Qd 1 26 (.mv (tm 6)),
 Qd 2 27 (.call 123 [(tm 26)]),
 Qd 3 28 (.bin .add (tm 25) (tm 27)),
 Qd 4 4 (.mv (tm 28))] [4, 19, 20, 21] []
abbrev f97r8 : Pc := .reg [
 Qd 0 29 (.bin .add (tm 21) (kz 1)),
 Qd 1 21 (.mv (tm 29))] [4, 19, 20, 21] []
def f97l0 : Pc := (.seq f97r5 (.seq (.cond (tm 22) .skip (.exit 0)) (.seq (.block 1 (.seq f97r6 f97r7)) f97r8)))
theorem f97l0e (C : Cfg) (s : St) : evL C f97l0 s = evL C (.seq f97r5 (.seq (.cond (tm 22) .skip (.exit 0)) (.seq (.block 1 (.seq f97r6 f97r7)) f97r8))) s := rfl
abbrev f97r9 : Pc := .reg [
 Qd 0 30 (.mv (tm 4)),
 Qd 1 31 (.mv (tm 4)),
 Qd 2 32 (.call 88 [(tm 31)]),
 Qd 3 33 (.call 123 [(tm 32)]),
 Qd 4 34 (.bin .add (tm 30) (tm 33)),
 Qd 5 4 (.mv (tm 34))] [4] [11, 16, 19]
abbrev f97r10 : Pc := .reg [
 Qd 0 35 (.mv (tm 4)),
 Qd 1 36 (.lenS (tm 35)),
 Qd 2 37 (.call 123 [(tm 36)]),
 Qd 3 38 (.mv (tm 4)),
 Qd 4 39 (.bin .add (tm 37) (tm 38)),
 Qd 5 2 (.mv (tm 39)),
 Qd 6 3 (.mv (kz 0))] [2, 3] []
abbrev f97b : Pc := (.seq f97r0 (.seq (.seq f97r1 (.cond (tm 9) (.seq f97r2 .ret) .skip)) (.seq f97r3 (.seq (.seq f97r4 (.block 0 (.loop f97l0))) (.seq f97r9 (.seq f97r10 .ret))))))
abbrev f97 : Pfn := ⟨1, 40, [.tmp 2, .tmp 3], f97b⟩
def f97K : Array (List Nat) := #[[1], [1, 9], [2, 3], [1, 4], [4, 19, 20, 21], [4, 19, 20, 21, 22], [4, 6, 19, 20, 21], [4, 19, 20, 21], [4, 19, 20, 21], [4], [2, 3]]
def f97H : Array (List Nat) := #[[], [], [1], [], [1], [], [], [], [], [11, 16, 19], []]
def f97A : Ann := ⟨fun r => f97K.getD r [], fun r => f97H.getD r [], fun r i => ([(4, 8), (4, 3), (4, 2006), (4, 1)] : List (Nat × Nat)).contains (r, i)⟩
theorem f97C : compF Go.Proofs.Tryz.prog f97A 97 = some f97 := by kernel_rfl

abbrev f98r0 : Pc := .reg [
 Qd 0 4 (.nilv 9 1)] [0, 1] [4, 7, 14]
abbrev f98r1 : Pc := .reg [
 Qd 0 6 (.mv (tm 0)),
 Qd 1 7 (.call 41 [(tm 6)]),
 Qd 2 5 (.mv (tm 7))] [0, 1, 5] []
abbrev f98r2 : Pc := .reg [
 Qd 0 8 (.mv (tm 0)),
 Qd 1 9 (.lenL (tm 8)),
 Qd 2 10 (.bin .lss (tm 9) (kz 200))] [1, 5, 10] []
abbrev f98r3 : Pc := .reg [
 Qd 0 11 (.mv (tm 5)),
 Qd 1 12 (.mv (tm 1)),
 Qd 2 13 (.bslT 1 [(tm 12)]),
 Qd 3 14 (.app 9 1 16 (tm 11) (tm 13)),
 Qd 4 5 (.mv (tm 14))] [5] []
abbrev f98r4 : Pc := .reg [
 Qd 0 15 (.mv (tm 5)),
 Qd 1 4 (.mv (tm 15))] [4] []
abbrev f98b : Pc := (.seq f98r0 (.seq f98r1 (.seq (.seq f98r2 (.cond (tm 10) f98r3 .skip)) (.seq f98r4 .ret))))
abbrev f98 : Pfn := ⟨2, 16, [.tmp 4], f98b⟩
def f98K : Array (List Nat) := #[[0, 1], [0, 1, 5], [1, 5, 10], [5], [4]]
def f98H : Array (List Nat) := #[[4, 7, 14], [], [], [], []]
def f98A : Ann := ⟨fun r => f98K.getD r [], fun r => f98H.getD r [], fun r i => ([] : List (Nat × Nat)).contains (r, i)⟩
theorem f98C : compF Go.Proofs.Tryz.prog f98A 98 = some f98 := by kernel_rfl

abbrev f99r0 : Pc := .reg [
 Qd 0 4 (.mv kF)] [0, 1] []
abbrev f99r1 : Pc := .reg [
 Qd 0 5 (.mv (tm 0)),
 Qd 1 6 (.mv (tm 1)),
 Qd 2 7 (.call 124 [(tm 5), (tm 6)]),
 Qd 3 8 (.bin .geq (tm 7) (kz 0)),
 Qd 4 4 (.mv (tm 8))] [4] []
abbrev f99b : Pc := (.seq f99r0 (.seq f99r1 .ret))
abbrev f99 : Pfn := ⟨2, 9, [.tmp 4], f99b⟩
def f99K : Array (List Nat) := #[[0, 1], [4]]
def f99H : Array (List Nat) := #[[], []]
def f99A : Ann := ⟨fun r => f99K.getD r [], fun r => f99H.getD r [], fun r i => ([] : List (Nat × Nat)).contains (r, i)⟩
theorem f99C : compF Go.Proofs.Tryz.prog f99A 99 = some f99 := by kernel_rfl

abbrev f102r0 : Pc := .reg [
 Qd 0 4 (.mv (kz 0))] [0, 1] []
abbrev f102r1 : Pc := .reg [
 Qd 0 6 (.mv (tm 0)),
 Qd 1 7 (.lenL (tm 6)),
 Qd 2 8 (.mv (kz 0))] [0, 1, 7, 8] []
abbrev f102r2 : Pc := .reg [
 Qd 0 9 (.bin .lss (tm 8) (tm 7))] [0, 1, 7, 8, 9] []
abbrev f102r3 : Pc := .reg [
 Qd 0 10 (.mv (tm 8)),
 Qd 1 5 (.mv (tm 10))] [0, 1, 5, 7, 8] []
abbrev f102r4 : Pc := .reg [
 Qd 0 11 (.mv (tm 1)),
 Qd 1 12 (.mv (tm 0)),
 Qd 2 13 (.mv (tm 5)),
 Qd 3 14 (.ixS 1 (tm 12) (tm 13)),
 Qd 4 15 (.load false 1 (tm 14)),
 Qd 5 16 (.callv (tm 11) [(tm 15)])] [0, 1, 5, 7, 8, 16] []
abbrev f102r5 : Pc := .reg [
 Qd 0 17 (.mv (tm 5)),
 Qd 1 4 (.mv (tm 17))] [4] []
abbrev f102r6 : Pc := .reg [
 Qd 0 18 (.bin .add (tm 8) (kz 1)),
 Qd 1 8 (.mv (tm 18))] [0, 1, 7, 8] []
def f102l0 : Pc := (.seq f102r2 (.seq (.cond (tm 9) .skip (.exit 0)) (.seq (.block 1 (.seq f102r3 (.seq f102r4 (.cond (tm 16) (.seq f102r5 .ret) .skip)))) f102r6)))
theorem f102l0e (C : Cfg) (s : St) : evL C f102l0 s = evL C (.seq f102r2 (.seq (.cond (tm 9) .skip (.exit 0)) (.seq (.block 1 (.seq f102r3 (.seq f102r4 (.cond (tm 16) (.seq f102r5 .ret) .skip)))) f102r6))) s := rfl
abbrev f102r7 : Pc := .reg [
 Qd 0 4 (.mv (kz (-1)))] [4] []
abbrev f102b : Pc := (.seq f102r0 (.seq (.seq f102r1 (.block 0 (.loop f102l0))) (.seq f102r7 .ret)))
abbrev f102 : Pfn := ⟨2, 19, [.tmp 4], f102b⟩
def f102K : Array (List Nat) := #[[0, 1], [0, 1, 7, 8], [0, 1, 7, 8, 9], [0, 1, 5, 7, 8], [0, 1, 5, 7, 8, 16], [4], [0, 1, 7, 8], [4]]
def f102H : Array (List Nat) := #[[], [], [], [], [], [], [], []]
def f102A : Ann := ⟨fun r => f102K.getD r [], fun r => f102H.getD r [], fun r i => ([] : List (Nat × Nat)).contains (r, i)⟩
theorem f102C : compF Go.Proofs.Tryz.prog f102A 102 = some f102 := by kernel_rfl

abbrev f103r0 : Pc := .reg [
 Qd 0 4 (.nilv 9 1)] [0, 1] [4, 14]
abbrev f103r1 : Pc := .reg [
 Qd 0 5 (.mv (tm 1)),
 Qd 1 6 (.bin .lss (tm 5) (kz 0)),
 Qd 2 7 (.mv (tm 6)),
 Gf 3 8 7 (.mv (tm 1)),
 Gf 4 9 7 (.mv (tm 0)),
 Gf 5 10 7 (.lenL (tm 9)),
 Gf 6 11 7 (.bin .geq (tm 8) (tm 10)),
 Qd 7 12 (.pick (tm 7) kT (tm 11))] [0, 1, 12] []
abbrev f103r2 : Pc := .reg [
 Qd 0 13 (.mv (tm 0)),
 Qd 1 14 (.call 41 [(tm 13)]),
 Qd 2 4 (.mv (tm 14))] [4] []
abbrev f103r3 : Pc := .reg [
 Qd 0 15 (.mv (tm 0)),
 Qd 1 16 (.mv (tm 0)),
 Qd 2 17 (.mv (tm 1)),
 Qd 3 18 (.ixS 1 (tm 16) (tm 17)),
 Qd 4 19 (.load false 1 (tm 18)),
 Qd 5 20 (.call 98 [(tm 15), (tm 19)]),
 Qd 6 4 (.mv (tm 20))] [4] []
abbrev f103b : Pc := (.seq f103r0 (.seq (.seq f103r1 (.cond (tm 12) (.seq f103r2 .ret) .skip)) (.seq f103r3 .ret)))
abbrev f103 : Pfn := ⟨2, 21, [.tmp 4], f103b⟩
def f103K : Array (List Nat) := #[[0, 1], [0, 1, 12], [4], [4]]
def f103H : Array (List Nat) := #[[4, 14], [], [], []]
def f103A : Ann := ⟨fun r => f103K.getD r [], fun r => f103H.getD r [], fun r i => ([] : List (Nat × Nat)).contains (r, i)⟩
theorem f103C : compF Go.Proofs.Tryz.prog f103A 103 = some f103 := by kernel_rfl

abbrev f104r0 : Pc := .reg [
 Qd 0 5 (.box 3 1 (tm 2)),
 Qd 1 6 (.mv kF)] [0, 1, 5] []
abbrev f104r1 : Pc := .reg [
 Qd 0 7 (.mv (tm 0)),
 Qd 1 8 (.lenL (tm 7)),
 Qd 2 9 (.mv (tm 1)),
 Qd 3 10 (.bin .eql (tm 8) (tm 9)),
 Qd 4 11 (.mv (tm 10)),
 Gt 5 12 11 (.mv (tm 0)),
 Gt 6 13 11 (.mkfn 136 [(tm 5)]),
 Gt 7 14 11 (.call 67 [(tm 12), (tm 13)]),
 Gt 8 15 11 (.un .not (tm 14)),
 Qd 9 16 (.pick (tm 11) (tm 15) kF),
 Qd 10 6 (.mv (tm 16))] [6] [5]
abbrev f104b : Pc := (.seq f104r0 (.seq f104r1 .ret))
abbrev f104 : Pfn := ⟨3, 17, [.tmp 6], f104b⟩
def f104K : Array (List Nat) := #[[0, 1, 5], [6]]
def f104H : Array (List Nat) := #[[], [5]]
def f104A : Ann := ⟨fun r => f104K.getD r [], fun r => f104H.getD r [], fun r i => ([] : List (Nat × Nat)).contains (r, i)⟩
theorem f104C : compF Go.Proofs.Tryz.prog f104A 104 = some f104 := by kernel_rfl

abbrev f105r0 : Pc := .reg [
 Qd 0 4 (.mv kF)] [0, 1] []
abbrev f105r1 : Pc := .reg [
 Qd 0 5 (.mv (tm 0)),
 Qd 1 6 (.mv (tm 1)),
 Qd 2 7 (.call 138 [(tm 5), (tm 6)]),
 Qd 3 8 (.bin .geq (tm 7) (kz 0)),
 Qd 4 4 (.mv (tm 8))] [4] []
abbrev f105b : Pc := (.seq f105r0 (.seq f105r1 .ret))
abbrev f105 : Pfn := ⟨2, 9, [.tmp 4], f105b⟩
def f105K : Array (List Nat) := #[[0, 1], [4]]
def f105H : Array (List Nat) := #[[], []]
def f105A : Ann := ⟨fun r => f105K.getD r [], fun r => f105H.getD r [], fun r i => ([] : List (Nat × Nat)).contains (r, i)⟩
theorem f105C : compF Go.Proofs.Tryz.prog f105A 105 = some f105 := by kernel_rfl

abbrev f106r0 : Pc := .reg [
 Qd 0 2 (.box 67 2 (tm 0)),
 Qd 1 3 (.mv kF)] [1, 2] []
abbrev f106r1 : Pc := .reg [
 Qd 0 4 (.load true 2 (tm 2)),
 Qd 1 5 (.load false 1 (tm 1)),
 Qd 2 6 (.call 107 [(tm 4), (tm 5)]),
 Qd 3 7 (.un .not (tm 6)),
 Qd 4 3 (.mv (tm 7))] [3] [2]
abbrev f106b : Pc := (.seq f106r0 (.seq f106r1 .ret))
abbrev f106 : Pfn := ⟨2, 8, [.tmp 3], f106b⟩
def f106K : Array (List Nat) := #[[1, 2], [3]]
def f106H : Array (List Nat) := #[[], [2]]
def f106A : Ann := ⟨fun r => f106K.getD r [], fun r => f106H.getD r [], fun r i => ([] : List (Nat × Nat)).contains (r, i)⟩
theorem f106C : compF Go.Proofs.Tryz.prog f106A 106 = some f106 := by kernel_rfl

abbrev f107r0 : Pc := .reg [
 Qd 0 2 (.box 67 2 (tm 0)),
 Qd 1 4 (.mv kF)] [1, 2] []
abbrev f107r1 : Pc := .reg [
 Qd 0 6 (.fad 0 (tm 2)),
 Qd 1 7 (.load false 1 (tm 6)),
 Qd 2 8 (.lenL (tm 7)),
 Qd 3 5 (.mv (tm 8))] [1, 2, 5] []
abbrev f107r2 : Pc := .reg [
 Qd 0 9 (.mv (tm 1)),
 Qd 1 10 (.bin .geq (tm 9) (kz 1)),
 Qd 2 11 (.mv (tm 10)),
 Gt 3 12 11 (.mv (tm 1)),
 Gt 4 13 11 (.bin .leq (tm 12) (kz 8)),
 Qd 5 14 (.pick (tm 11) (tm 13) kF),
 Qd 6 15 (.mv (tm 14)),
 Gt 7 16 15 (.mv (tm 5)),
 Gt 8 17 15 (.bin .geq (tm 16) (kz 1)),
 Qd 9 18 (.pick (tm 15) (tm 17) kF),
 Qd 10 19 (.mv (tm 18)),
 Gt 11 20 19 (.mv (tm 5)),
 Gt 12 21 19 (.bin .leq (tm 20) (kz 8)),
 Qd 13 22 (.pick (tm 19) (tm 21) kF),
 Qd 14 23 (.mv (tm 22)),
 Gt 15 24 23 (.fad 0 (tm 2)),
 Gt 16 25 23 (.load false 1 (tm 24)),
 Gt 17 26 23 (.mv (tm 5)),
 Gt 18 27 23 (.mv (tm 1)),
 Gt 19 28 23 (.call 104 [(tm 25), (tm 26), (tm 27)]),
 Qd 20 29 (.pick (tm 23) (tm 28) kF),
 Qd 21 30 (.mv (tm 29)),
 Gt 22 31 30 (.fad 1 (tm 2)),
 Gt 23 32 30 (.load false 1 (tm 31)),
 Gt 24 33 30 (.mv (tm 1)),
 Gt 25 34 30 (.mv (tm 5)),
 Gt 26 35 30 (.call 104 [(tm 32), (tm 33), (tm 34)]),
 Qd 27 36 (.pick (tm 30) (tm 35) kF),
 Qd 28 4 (.mv (tm 36))] [4] [2]
abbrev f107b : Pc := (.seq f107r0 (.seq f107r1 (.seq f107r2 .ret)))
abbrev f107 : Pfn := ⟨2, 37, [.tmp 4], f107b⟩
def f107K : Array (List Nat) := #[[1, 2], [1, 2, 5], [4]]
def f107H : Array (List Nat) := #[[], [], [2]]
def f107A : Ann := ⟨fun r => f107K.getD r [], fun r => f107H.getD r [], fun r i => ([] : List (Nat × Nat)).contains (r, i)⟩
theorem f107C : compF Go.Proofs.Tryz.prog f107A 107 = some f107 := by kernel_rfl

abbrev f108r0 : Pc := .reg [
 Qd 0 4 (.mv (kz 0))] [0, 1] []
abbrev f108r1 : Pc := .reg [
 Qd 0 6 (.mv (tm 0)),
 Qd 1 7 (.lenL (tm 6)),
 Qd 2 8 (.mv (kz 0))] [0, 1, 7, 8] []
abbrev f108r2 : Pc := .reg [
 Qd 0 9 (.bin .lss (tm 8) (tm 7))] [0, 1, 7, 8, 9] []
abbrev f108r3 : Pc := .reg [
 Qd 0 10 (.mv (tm 8)),
 Qd 1 5 (.mv (tm 10))] [0, 1, 5, 7, 8] []
abbrev f108r4 : Pc := .reg [
 Qd 0 11 (.mv (tm 1)),
 Qd 1 12 (.mv (tm 0)),
 Qd 2 13 (.mv (tm 5)),
 Qd 3 14 (.ixS 1 (tm 12) (tm 13)),
 Qd 4 15 (.load false 1 (tm 14)),
 Qd 5 16 (.callv (tm 11) [(tm 15)])] [0, 1, 5, 7, 8, 16] []
abbrev f108r5 : Pc := .reg [
 Qd 0 17 (.mv (tm 5)),
 Qd 1 4 (.mv (tm 17))] [4] []
abbrev f108r6 : Pc := .reg [
 Qd 0 18 (.bin .add (tm 8) (kz 1)),
 Qd 1 8 (.mv (tm 18))] [0, 1, 7, 8] []
def f108l0 : Pc := (.seq f108r2 (.seq (.cond (tm 9) .skip (.exit 0)) (.seq (.block 1 (.seq f108r3 (.seq f108r4 (.cond (tm 16) (.seq f108r5 .ret) .skip)))) f108r6)))
theorem f108l0e (C : Cfg) (s : St) : evL C f108l0 s = evL C (.seq f108r2 (.seq (.cond (tm 9) .skip (.exit 0)) (.seq (.block 1 (.seq f108r3 (.seq f108r4 (.cond (tm 16) (.seq f108r5 .ret) .skip)))) f108r6))) s := rfl
abbrev f108r7 : Pc := .reg [
 Qd 0 4 (.mv (kz (-1)))] [4] []
abbrev f108b : Pc := (.seq f108r0 (.seq (.seq f108r1 (.block 0 (.loop f108l0))) (.seq f108r7 .ret)))
abbrev f108 : Pfn := ⟨2, 19, [.tmp 4], f108b⟩
def f108K : Array (List Nat) := #[[0, 1], [0, 1, 7, 8], [0, 1, 7, 8, 9], [0, 1, 5, 7, 8], [0, 1, 5, 7, 8, 16], [4], [0, 1, 7, 8], [4]]
def f108H : Array (List Nat) := #[[], [], [], [], [], [], [], []]
def f108A : Ann := ⟨fun r => f108K.getD r [], fun r => f108H.getD r [], fun r i => ([] : List (Nat × Nat)).contains (r, i)⟩
theorem f108C : compF Go.Proofs.Tryz.prog f108A 108 = some f108 := by kernel_rfl

abbrev f109r0 : Pc := .reg [
 Qd 0 4 (.alloc 155 [(.t (.i .i64 0)), (.t (.i .i64 0)), (.t (.i .i64 0)), (.t (.i .i64 0))]),
 Qd 1 5 (.mv kF)] [0, 1, 4] []
abbrev f109r1 : Pc := .reg [
 Qd 0 10 (.mv (tm 0)),
 Qd 1 11 (.mv (tm 1)),
 Qd 2 12 (.call 120 [(tm 10), (tm 11)]),
 Qd 3 9 (.mv (tm 12)),
 Qd 4 13 (.ext 0 (tm 9)),
 Qd 5 14 (.ext 1 (tm 9)),
 Qd 6 6 (.mv (tm 13)),
 Qd 7 7 (.mv (tm 14))] [0, 4, 6, 7] []
abbrev f109r2 : Pc := .reg [
 Qd 0 15 (.mv (tm 7)),
 Qd 1 16 (.un .not (tm 15)),
 Qd 2 17 (.mv (tm 16)),
 Gf 3 18 17 (.mv (tm 0)),
 Gf 4 19 17 (.lenL (tm 18)),
 Gf 5 20 17 (.bin .eql (tm 19) (kz 0)),
 Qd 6 21 (.pick (tm 17) kT (tm 20))] [4, 6, 21] []
abbrev f109r3 : Pc := .reg [
 Qd 0 22 (.build [(.t (.i .i64 0)), (.t (.i .i64 0)), (.t (.i .i64 0)), (.t (.i .i64 0))] []),
 Qn 1 (.store 4 (tm 4) (tm 22)),
 Qd 2 5 (.mv kF)] [4, 5] []
abbrev f109r4 : Pc := .reg [
 Qd 0 23 (.build [(.t (.i .i64 0)), (.t (.i .i64 0)), (.t (.i .i64 0)), (.t (.i .i64 0))] [(2, 1, (kz 65536))]),
 Qd 1 8 (.alloc 155 [(.t (.i .i64 0)), (.t (.i .i64 0)), (.t (.i .i64 0)), (.t (.i .i64 0))]),
 Qn 2 (.store 4 (tm 8) (tm 23))] [4, 6, 8] []
abbrev f109r5 : Pc := .reg [
 Qd 0 25 (.mv (tm 6)),
 Qd 1 26 (.call 139 [(tm 25)]),
 Qd 2 24 (.mv (tm 26)),
 Qd 3 27 (.ext 0 (tm 24)),
 Qd 4 28 (.ext 1 (tm 24)),
 Qd 5 29 (.fad 0 (tm 8)),
 Qn 6 (.store 1 (tm 29) (tm 27)),
 Qd 7 30 (.fad 1 (tm 8)),
 Qn 8 (.store 1 (tm 30) (tm 28))] [4, 6, 8] []
abbrev f109r6 : Pc := .reg [
 Qd 0 31 (.fad 1 (tm 8)),
 Qd 1 32 (.load false 1 (tm 31)),
 Qd 2 33 (.bin .geq (tm 32) (kz 0))] [4, 6, 8, 33] []
abbrev f109r7 : Pc := .reg [
 Qd 0 35 (.mv (tm 6)),
 Qd 1 36 (.fad 0 (tm 8)),
 Qd 2 37 (.load false 1 (tm 36)),
 Qd 3 38 (.ixS 1 (tm 35) (tm 37)),
 Qd 4 39 (.load false 1 (tm 38)),
 Qd 5 40 (.mv (tm 6)),
 Qd 6 41 (.fad 1 (tm 8)),
 Qd 7 42 (.load false 1 (tm 41)),
 Qd 8 43 (.ixS 1 (tm 40) (tm 42)),
 Qd 9 44 (.load false 1 (tm 43)),
 Qd 10 45 (.callq 140 [(tm 39), (tm 44)]),
 Qd 11 34 (.mv (tm 45)),
 Qd 12 46 (.ext 0 (tm 34)),
 Qd 13 47 (.ext 1 (tm 34)),
 Qd 14 48 (.fad 2 (tm 8)),
 Qn 15 (.store 1 (tm 48) (tm 46)),
 Qd 16 49 (.fad 3 (tm 8)),
 Qn 17 (.store 1 (tm 49) (tm 47))] [4, 8] []
abbrev f109r8 : Pc := .reg [
 Qd 0 50 (.load true 4 (tm 8)),
 Qn 1 (.store 4 (tm 4) (tm 50)),
 Qd 2 5 (.mv kT)] [4, 5] [8]
abbrev f109b : Pc := (.seq f109r0 (.seq f109r1 (.seq (.seq f109r2 (.cond (tm 21) (.seq f109r3 .ret) .skip)) (.seq f109r4 (.seq f109r5 (.seq (.seq f109r6 (.cond (tm 33) f109r7 .skip)) (.seq f109r8 .ret)))))))
abbrev f109 : Pfn := ⟨2, 51, [.cell 4 true 4, .tmp 5], f109b⟩
def f109K : Array (List Nat) := #[[0, 1, 4], [0, 4, 6, 7], [4, 6, 21], [4, 5], [4, 6, 8], [4, 6, 8], [4, 6, 8, 33], [4, 8], [4, 5]]
def f109H : Array (List Nat) := #[[], [], [], [], [], [], [], [], [8]]
def f109A : Ann := ⟨fun r => f109K.getD r [], fun r => f109H.getD r [], fun r i => ([] : List (Nat × Nat)).contains (r, i)⟩
theorem f109C : compF Go.Proofs.Tryz.prog f109A 109 = some f109 := by kernel_rfl

abbrev f110r0 : Pc := .reg [
 Qd 0 6 (.nilv 91 2)] [0, 1, 2] [6, 8, 54]
abbrev f110r1 : Pc := .reg [
 Qd 0 14 (.mkm),
 Qd 1 7 (.mv (tm 14))] [0, 1, 2, 7] []
abbrev f110r2 : Pc := .reg [
 Qd 0 8 (.nilv 91 2)] [0, 1, 2, 7, 8] []
abbrev f110r3 : Pc := .reg [
 Qd 0 15 (.mv (tm 0)),
 Qd 1 16 (.lenL (tm 15)),
 Qd 2 17 (.mv (kz 0))] [1, 2, 7, 8, 15, 16, 17] []
abbrev f110r4 : Pc := .reg [
 Qd 0 18 (.bin .lss (tm 17) (tm 16))] [1, 2, 7, 8, 15, 16, 17, 18] []
abbrev f110r5 : Pc := .reg [
 Qd 0 19 (.ixS 2 (tm 15) (tm 17)),
 Qd 1 20 (.load true 2 (tm 19)),
 Qd 2 10 (.alloc 91 [(.t (.i .i64 0)), (.t (.i .i64 0))]),
 Qn 3 (.store 2 (tm 10) (tm 20))] [1, 2, 7, 8, 10, 15, 16, 17] []
abbrev f110r6 : Pc := .reg [
 Qd 0 21 (.build [(.t (.i .i64 0)), (.t (.i .i64 0))] [(0, 1, (kz (-1))), (1, 1, (kz (-1)))]),
 Qd 1 11 (.alloc 91 [(.t (.i .i64 0)), (.t (.i .i64 0))]),
 Qn 2 (.store 2 (tm 11) (tm 21))] [1, 2, 7, 8, 10, 11, 15, 16, 17] []
abbrev f110r7 : Pc := .reg [
 Qd 0 22 (.load true 2 (tm 10)),
 Qd 1 23 (.mv (kz 0))] [1, 2, 7, 8, 11, 15, 16, 17, 22, 23] [10]
abbrev f110r8 : Pc := .reg [
 Qd 0 24 (.bin .lss (tm 23) (kz 2))] [1, 2, 7, 8, 11, 15, 16, 17, 22, 23, 24] []
abbrev f110r9 : Pc := .reg [
 Qd 0 25 (.mv (tm 23)),
 Qd 1 26 (.ixV false 2 1 (tm 22) (tm 23)),
 Qd 2 12 (.mv (tm 25)),
 Qd 3 13 (.mv (tm 26))] [1, 2, 7, 8, 11, 12, 13, 15, 16, 17, 22, 23] []
abbrev f110r10 : Pc := .reg [
 Qd 0 27 (.mv (tm 13)),
 Qd 1 28 (.bin .lss (tm 27) (kz 0)),
 Qd 2 29 (.mv (tm 28)),
 Gf 3 30 29 (.mv (tm 13)),
 Gf 4 31 29 (.mv (tm 1)),
 Gf 5 32 29 (.bin .geq (tm 30) (tm 31)),
 Qd 6 33 (.pick (tm 29) kT (tm 32)),
 Qd 7 34 (.mv (tm 33)),
 Gf 8 35 34 (.mv (tm 7)),
 Gf 9 36 34 (.mv (tm 13)),
 Gf 10 37 34 (.mlk (.t (.i .i64 0)) false (tm 35) (tm 36)),
 Gf 11 38 34 (.mv (tm 2)),
 Gf 12 39 34 (.bin .geq (tm 37) (tm 38)),
 Qd 13 40 (.pick (tm 34) kT (tm 39))] [1, 2, 7, 8, 11, 12, 13, 15, 16, 17, 22, 23, 40] []
abbrev f110r11 : Pc := .reg [
 Qd 0 41 (.mv (tm 12)),
 Qd 1 42 (.mv (tm 7)),
 Qd 2 43 (.mv (tm 13)),
 Qd 3 44 (.mlk (.t (.i .i64 0)) false (tm 42) (tm 43)),
 Qd 4 45 (.ixA 2 1 (tm 11) (tm 41)),
 Qn 5 (.store 1 (tm 45) (tm 44))] [1, 2, 7, 8, 11, 13, 15, 16, 17, 22, 23] []
abbrev f110r12 : Pc := .reg [
 Qd 0 46 (.mv (tm 7)),
 Qd 1 47 (.mv (tm 13)),
 Qd 2 48 (.mlk (.t (.i .i64 0)) false (tm 46) (tm 47)),
 Qd 3 49 (.bin .add (tm 48) (kz 1)),
 Qn 4 (.mup (tm 46) (tm 47) (tm 49))] [1, 2, 7, 8, 11, 15, 16, 17, 22, 23] []
abbrev f110r13 : Pc := .reg [
 Qd 0 50 (.bin .add (tm 23) (kz 1)),
 Qd 1 23 (.mv (tm 50))] [1, 2, 7, 8, 11, 15, 16, 17, 22, 23] []
def f110l0 : Pc := (.seq f110r8 (.seq (.cond (tm 24) .skip (.exit 2)) (.seq (.block 3 (.seq f110r9 (.seq (.seq f110r10 (.cond (tm 40) (.exit 3) .skip)) (.seq f110r11 f110r12)))) f110r13)))
theorem f110l0e (C : Cfg) (s : St) : evL C f110l0 s = evL C (.seq f110r8 (.seq (.cond (tm 24) .skip (.exit 2)) (.seq (.block 3 (.seq f110r9 (.seq (.seq f110r10 (.cond (tm 40) (.exit 3) .skip)) (.seq f110r11 f110r12)))) f110r13))) s := rfl
abbrev f110r14 : Pc := .reg [
 Qd 0 51 (.mv (tm 8)),
 Qd 1 52 (.load true 2 (tm 11)),
 Qd 2 53 (.bslT 2 [(tm 52)]),
 Qd 3 54 (.app 91 2 16 (tm 51) (tm 53)),
 Qd 4 8 (.mv (tm 54))] [1, 2, 7, 8, 15, 16, 17] [11]
abbrev f110r15 : Pc := .reg [
 Qd 0 55 (.bin .add (tm 17) (kz 1)),
 Qd 1 17 (.mv (tm 55))] [1, 2, 7, 8, 15, 16, 17] []
def f110l1 : Pc := (.seq f110r4 (.seq (.cond (tm 18) .skip (.exit 0)) (.seq (.block 1 (.seq f110r5 (.seq f110r6 (.seq (.seq f110r7 (.block 2 (.loop f110l0))) f110r14)))) f110r15)))
theorem f110l1e (C : Cfg) (s : St) : evL C f110l1 s = evL C (.seq f110r4 (.seq (.cond (tm 18) .skip (.exit 0)) (.seq (.block 1 (.seq f110r5 (.seq f110r6 (.seq (.seq f110r7 (.block 2 (.loop f110l0))) f110r14)))) f110r15))) s := rfl
abbrev f110r16 : Pc := .reg [
 Qd 0 56 (.mv (tm 8)),
 Qd 1 6 (.mv (tm 56))] [6] [14]
abbrev f110b : Pc := (.seq f110r0 (.seq f110r1 (.seq f110r2 (.seq (.seq f110r3 (.block 0 (.loop f110l1))) (.seq f110r16 .ret)))))
abbrev f110 : Pfn := ⟨3, 57, [.tmp 6], f110b⟩
def f110K : Array (List Nat) := #[[0, 1, 2], [0, 1, 2, 7], [0, 1, 2, 7, 8], [1, 2, 7, 8, 15, 16, 17], [1, 2, 7, 8, 15, 16, 17, 18], [1, 2, 7, 8, 10, 15, 16, 17], [1, 2, 7, 8, 10, 11, 15, 16, 17], [1, 2, 7, 8, 11, 15, 16, 17, 22, 23], [1, 2, 7, 8, 11, 15, 16, 17, 22, 23, 24], [1, 2, 7, 8, 11, 12, 13, 15, 16, 17, 22, 23], [1, 2, 7, 8, 11, 12, 13, 15, 16, 17, 22, 23, 40], [1, 2, 7, 8, 11, 13, 15, 16, 17, 22, 23], [1, 2, 7, 8, 11, 15, 16, 17, 22, 23], [1, 2, 7, 8, 11, 15, 16, 17, 22, 23], [1, 2, 7, 8, 15, 16, 17], [1, 2, 7, 8, 15, 16, 17], [6]]
def f110H : Array (List Nat) := #[[6, 8, 54], [], [], [], [], [], [], [10], [], [], [], [], [], [], [11], [], [14]]
def f110A : Ann := ⟨fun r => f110K.getD r [], fun r => f110H.getD r [], fun r i => ([] : List (Nat × Nat)).contains (r, i)⟩
theorem f110C : compF Go.Proofs.Tryz.prog f110A 110 = some f110 := by kernel_rfl

abbrev f111r0 : Pc := .reg [
 Qd 0 4 (.mv (kz 0))] [0, 1] []
abbrev f111r1 : Pc := .reg [
 Qd 0 6 (.mv (tm 0)),
 Qd 1 7 (.lenL (tm 6)),
 Qd 2 8 (.mv (kz 0))] [0, 1, 7, 8] []
abbrev f111r2 : Pc := .reg [
 Qd 0 9 (.bin .lss (tm 8) (tm 7))] [0, 1, 7, 8, 9] []
abbrev f111r3 : Pc := .reg [
 Qd 0 10 (.mv (tm 8)),
 Qd 1 5 (.mv (tm 10))] [0, 1, 5, 7, 8] []
abbrev f111r4 : Pc := .reg [
 Qd 0 11 (.mv (tm 1)),
 Qd 1 12 (.mv (tm 0)),
 Qd 2 13 (.mv (tm 5)),
 Qd 3 14 (.ixS 1 (tm 12) (tm 13)),
 Qd 4 15 (.load false 1 (tm 14)),
 Qd 5 16 (.beq false (tm 11) (tm 15))] [0, 1, 5, 7, 8, 16] []
abbrev f111r5 : Pc := .reg [
 Qd 0 17 (.mv (tm 5)),
 Qd 1 4 (.mv (tm 17))] [4] []
abbrev f111r6 : Pc := .reg [
 Qd 0 18 (.bin .add (tm 8) (kz 1)),
 Qd 1 8 (.mv (tm 18))] [0, 1, 7, 8] []
def f111l0 : Pc := (.seq f111r2 (.seq (.cond (tm 9) .skip (.exit 0)) (.seq (.block 1 (.seq f111r3 (.seq f111r4 (.cond (tm 16) (.seq f111r5 .ret) .skip)))) f111r6)))
theorem f111l0e (C : Cfg) (s : St) : evL C f111l0 s = evL C (.seq f111r2 (.seq (.cond (tm 9) .skip (.exit 0)) (.seq (.block 1 (.seq f111r3 (.seq f111r4 (.cond (tm 16) (.seq f111r5 .ret) .skip)))) f111r6))) s := rfl
abbrev f111r7 : Pc := .reg [
 Qd 0 4 (.mv (kz (-1)))] [4] []
abbrev f111b : Pc := (.seq f111r0 (.seq (.seq f111r1 (.block 0 (.loop f111l0))) (.seq f111r7 .ret)))
abbrev f111 : Pfn := ⟨2, 19, [.tmp 4], f111b⟩
def f111K : Array (List Nat) := #[[0, 1], [0, 1, 7, 8], [0, 1, 7, 8, 9], [0, 1, 5, 7, 8], [0, 1, 5, 7, 8, 16], [4], [0, 1, 7, 8], [4]]
def f111H : Array (List Nat) := #[[], [], [], [], [], [], [], []]
def f111A : Ann := ⟨fun r => f111K.getD r [], fun r => f111H.getD r [], fun r i => ([] : List (Nat × Nat)).contains (r, i)⟩
theorem f111C : compF Go.Proofs.Tryz.prog f111A 111 = some f111 := by kernel_rfl

abbrev f112r0 : Pc := .reg [
 Qd 0 3 (.box 42 1 (tm 1)),
 Qd 1 4 (.nilv 3 1),
 Qd 2 5 (.mv kF)] [0, 3] [4]
abbrev f112r1 : Pc := .reg [
 Qd 0 6 (.mv (tm 0)),
 Qd 1 7 (.lenL (tm 6)),
 Qd 2 8 (.load false 1 (tm 3)),
 Qd 3 9 (.lenL (tm 8)),
 Qd 4 10 (.bin .neq (tm 7) (tm 9))] [0, 3, 10] []
abbrev f112r2 : Pc := .reg [
 Qd 0 4 (.nilv 3 1),
 Qd 1 5 (.mv kF)] [4, 5] []
abbrev f112r3 : Pc := .reg [
 Qd 0 11 (.mv (tm 0)),
 Qd 1 12 (.mkfn 142 [(tm 3)]),
 Qd 2 13 (.call 141 [(tm 11), (tm 12)]),
 Qd 3 4 (.mv (tm 13)),
 Qd 4 5 (.mv kT)] [4, 5] []
abbrev f112b : Pc := (.seq f112r0 (.seq (.seq f112r1 (.cond (tm 10) (.seq f112r2 .ret) .skip)) (.seq f112r3 .ret)))
abbrev f112 : Pfn := ⟨2, 14, [.tmp 4, .tmp 5], f112b⟩
def f112K : Array (List Nat) := #[[0, 3], [0, 3, 10], [4, 5], [4, 5]]
def f112H : Array (List Nat) := #[[4], [], [], []]
def f112A : Ann := ⟨fun r => f112K.getD r [], fun r => f112H.getD r [], fun r i => ([] : List (Nat × Nat)).contains (r, i)⟩
theorem f112C : compF Go.Proofs.Tryz.prog f112A 112 = some f112 := by kernel_rfl

abbrev f113r0 : Pc := .reg [
 Qd 0 3 (.box 3 1 (tm 1)),
 Qd 1 4 (.nilv 3 1)] [0, 3] [4]
abbrev f113r1 : Pc := .reg [
 Qd 0 5 (.mv (tm 0)),
 Qd 1 6 (.mkfn 144 [(tm 3)]),
 Qd 2 7 (.call 141 [(tm 5), (tm 6)]),
 Qd 3 4 (.mv (tm 7))] [4] []
abbrev f113b : Pc := (.seq f113r0 (.seq f113r1 .ret))
abbrev f113 : Pfn := ⟨2, 8, [.tmp 4], f113b⟩
def f113K : Array (List Nat) := #[[0, 3], [4]]
def f113H : Array (List Nat) := #[[4], []]
def f113A : Ann := ⟨fun r => f113K.getD r [], fun r => f113H.getD r [], fun r i => ([] : List (Nat × Nat)).contains (r, i)⟩
theorem f113C : compF Go.Proofs.Tryz.prog f113A 113 = some f113 := by kernel_rfl

abbrev f114r0 : Pc := .reg [
 Qd 0 4 (.mv (kz 0))] [0, 1] []
abbrev f114r1 : Pc := .reg [
 Qd 0 5 (.mv (kz 0))] [0, 1, 5] []
abbrev f114r2 : Pc := .reg [
 Qd 0 6 (.mv (kz 0))] [0, 1, 5, 6] []
abbrev f114r3 : Pc := .reg [
 Qd 0 7 (.mv (tm 6)),
 Qd 1 8 (.mv (tm 0)),
 Qd 2 9 (.lenL (tm 8)),
 Qd 3 10 (.bin .lss (tm 7) (tm 9))] [0, 1, 5, 6, 10] []
abbrev f114r5 : Pc := .reg [
 Qd 0 13 (.mv (tm 5)),
 Qd 1 14 (.mv (tm 0)),
 Qd 2 15 (.mv (tm 6)),
 Qd 3 16 (.ixS 1 (tm 14) (tm 15)),
 Qd 4 17 (.load false 1 (tm 16)),
 Qd 5 18 (.mv (tm 1)),
 Qd 6 19 (.mv (tm 6)),
 Qd 7 20 (.ixS 1 (tm 18) (tm 19)),
 Qd 8 21 (.load false 1 (tm 20)),
 Qd 9 22 (.callq 84 [(tm 17), (tm 21)]),
 Qd 10 23 (.bin .add (tm 13) (tm 22)),
 Qd 11 24 (.callq 83 [(tm 23)]),
 Qd 12 5 (.mv (tm 24))] [0, 1, 5, 6] []
abbrev f114r4 : Pc := .reg [
 Qd 0 11 (.mv (tm 6)),
 Qd 1 12 (.bin .add (tm 11) (kz 1)),
 Qd 2 6 (.mv (tm 12))] [0, 1, 5, 6] []
def f114l0 : Pc := (.seq (.seq f114r3 (.cond (tm 10) .skip (.exit 0))) (.seq (.block 1 f114r5) f114r4))
theorem f114l0e (C : Cfg) (s : St) : evL C f114l0 s = evL C (.seq (.seq f114r3 (.cond (tm 10) .skip (.exit 0))) (.seq (.block 1 f114r5) f114r4)) s := rfl
abbrev f114r6 : Pc := .reg [
 Qd 0 25 (.mv (tm 5)),
 Qd 1 4 (.mv (tm 25))] [4] []
abbrev f114b : Pc := (.seq f114r0 (.seq f114r1 (.seq (.seq f114r2 (.block 0 (.loop f114l0))) (.seq f114r6 .ret))))
abbrev f114 : Pfn := ⟨2, 26, [.tmp 4], f114b⟩
def f114K : Array (List Nat) := #[[0, 1], [0, 1, 5], [0, 1, 5, 6], [0, 1, 5, 6, 10], [0, 1, 5, 6], [0, 1, 5, 6], [4]]
def f114H : Array (List Nat) := #[[], [], [], [], [], [], []]
def f114A : Ann := ⟨fun r => f114K.getD r [], fun r => f114H.getD r [], fun r i => ([] : List (Nat × Nat)).contains (r, i)⟩
theorem f114C : compF Go.Proofs.Tryz.prog f114A 114 = some f114 := by kernel_rfl

abbrev f115r0 : Pc := .reg [
 Qd 0 4 (.mv (kz 0))] [0, 1] []
abbrev f115r1 : Pc := .reg [
 Qd 0 5 (.mv (kz 0))] [0, 1, 5] []
abbrev f115r2 : Pc := .reg [
 Qd 0 6 (.mv (kz 0))] [0, 1, 5, 6] []
abbrev f115r3 : Pc := .reg [
 Qd 0 7 (.mv (tm 6)),
 Qd 1 8 (.mv (tm 0)),
 Qd 2 9 (.lenL (tm 8)),
 Qd 3 10 (.bin .lss (tm 7) (tm 9))] [0, 1, 5, 6, 10] []
abbrev f115r5 : Pc := .reg [
 Qd 0 13 (.mv (tm 0)),
 Qd 1 14 (.mv (tm 6)),
 Qd 2 15 (.ixS 1 (tm 13) (tm 14)),
 Qd 3 16 (.load false 1 (tm 15)),
 Qd 4 17 (.mv (tm 0)),
 Qd 5 18 (.mv (tm 1)),
 Qd 6 19 (.ixS 1 (tm 17) (tm 18)),
 Qd 7 20 (.load false 1 (tm 19)),
 Qd 8 21 (.bin .gtr (tm 16) (tm 20)),
 Qd 9 22 (.mv (tm 21)),
 Gf 10 23 22 (.mv (tm 0)),
 Gf 11 24 22 (.mv (tm 6)),
 Gf 12 25 22 (.ixS 1 (tm 23) (tm 24)),
 Gf 13 26 22 (.load false 1 (tm 25)),
 Gf 14 27 22 (.mv (tm 0)),
 Gf 15 28 22 (.mv (tm 1)),
 Gf 16 29 22 (.ixS 1 (tm 27) (tm 28)),
 Gf 17 30 22 (.load false 1 (tm 29)),
 Gf 18 31 22 (.bin .eql (tm 26) (tm 30)),
 Gf 19 32 22 (.mv (tm 31)),
 Gt 20 33 32 (.mv (tm 6)),
 Gt 21 34 32 (.mv (tm 1)),
 Gt 22 35 32 (.bin .lss (tm 33) (tm 34)),
 Gf 23 36 22 (.pick (tm 32) (tm 35) kF),
 Qd 24 37 (.pick (tm 22) kT (tm 36))] [0, 1, 5, 6, 37] []
abbrev f115r6 : Pc := .reg [
 Qd 0 38 (.mv (tm 5)),
 Qd 1 39 (.bin .add (tm 38) (kz 1)),
 Qd 2 5 (.mv (tm 39))] [0, 1, 5, 6] []
abbrev f115r4 : Pc := .reg [
 Qd 0 11 (.mv (tm 6)),
 Qd 1 12 (.bin .add (tm 11) (kz 1)),
 Qd 2 6 (.mv (tm 12))] [0, 1, 5, 6] []
def f115l0 : Pc := (.seq (.seq f115r3 (.cond (tm 10) .skip (.exit 0))) (.seq (.block 1 (.seq f115r5 (.cond (tm 37) f115r6 .skip))) f115r4))
theorem f115l0e (C : Cfg) (s : St) : evL C f115l0 s = evL C (.seq (.seq f115r3 (.cond (tm 10) .skip (.exit 0))) (.seq (.block 1 (.seq f115r5 (.cond (tm 37) f115r6 .skip))) f115r4)) s := rfl
abbrev f115r7 : Pc := .reg [
 Qd 0 40 (.mv (tm 5)),
 Qd 1 4 (.mv (tm 40))] [4] []
abbrev f115b : Pc := (.seq f115r0 (.seq f115r1 (.seq (.seq f115r2 (.block 0 (.loop f115l0))) (.seq f115r7 .ret))))
abbrev f115 : Pfn := ⟨2, 41, [.tmp 4], f115b⟩
def f115K : Array (List Nat) := #[[0, 1], [0, 1, 5], [0, 1, 5, 6], [0, 1, 5, 6, 10], [0, 1, 5, 6], [0, 1, 5, 6, 37], [0, 1, 5, 6], [4]]
def f115H : Array (List Nat) := #[[], [], [], [], [], [], [], []]
def f115A : Ann := ⟨fun r => f115K.getD r [], fun r => f115H.getD r [], fun r i => ([] : List (Nat × Nat)).contains (r, i)⟩
theorem f115C : compF Go.Proofs.Tryz.prog f115A 115 = some f115 := by kernel_rfl

abbrev f116r0 : Pc := .reg [
 Qd 0 2 (.mv (kz 0))] [0] []
abbrev f116r1 : Pc := .reg [
 Qd 0 3 (.mv (tm 0)),
 Qd 1 4 (.bin .lss (tm 3) (kz 0))] [0, 4] []
abbrev f116r2 : Pc := .reg [
 Qd 0 2 (.mv (kz 1))] [2] []
abbrev f116r3 : Pc := .reg [
 Qd 0 5 (.mv (tm 0)),
 Qd 1 6 (.bin .gtr (tm 5) (kz 2147483647))] [0, 6] []
abbrev f116r4 : Pc := .reg [
 Qd 0 2 (.mv (kz 2147483648))] [2] []
abbrev f116r5 : Pc := .reg [
 Qd 0 7 (.mv (tm 0)),
 Qd 1 8 (.bin .add (tm 7) (kz 1)),
 Qd 2 2 (.mv (tm 8))] [2] []
abbrev f116b : Pc := (.seq f116r0 (.seq (.seq f116r1 (.cond (tm 4) (.seq f116r2 .ret) .skip)) (.seq (.seq f116r3 (.cond (tm 6) (.seq f116r4 .ret) .skip)) (.seq f116r5 .ret))))
abbrev f116 : Pfn := ⟨1, 9, [.tmp 2], f116b⟩
def f116K : Array (List Nat) := #[[0], [0, 4], [2], [0, 6], [2], [2]]
def f116H : Array (List Nat) := #[[], [], [], [], [], []]
def f116A : Ann := ⟨fun r => f116K.getD r [], fun r => f116H.getD r [], fun r i => ([] : List (Nat × Nat)).contains (r, i)⟩
theorem f116C : compF Go.Proofs.Tryz.prog f116A 116 = some f116 := by kernel_rfl

abbrev f117r0 : Pc := .reg [
 Qd 0 1 (.box 44 11 (tm 0)),
 Qd 1 2 (.nilv 3 1)] [1] [2, 23]
abbrev f117r1 : Pc := .reg [
 Qd 0 3 (.fad 0 (tm 1)),
 Qd 1 4 (.load false 1 (tm 3)),
 Qd 2 5 (.fad 1 (tm 1)),
 Qd 3 6 (.load false 1 (tm 5)),
 Qd 4 7 (.fad 2 (tm 1)),
 Qd 5 8 (.load false 1 (tm 7)),
 Qd 6 9 (.fad 3 (tm 1)),
 Qd 7 10 (.load false 1 (tm 9)),
 Qd 8 11 (.fad 4 (tm 1)),
 Qd 9 12 (.load false 1 (tm 11)),
 Qd 10 13 (.fad 5 (tm 1)),
 Qd 11 14 (.load false 1 (tm 13)),
 Qd 12 15 (.fad 6 (tm 1)),
 Qd 13 16 (.load false 1 (tm 15)),
 Qd 14 17 (.fad 7 (tm 1)),
 Qd 15 18 (.load false 1 (tm 17)),
 Qd 16 19 (.fad 8 (tm 1)),
 Qd 17 20 (.load false 1 (tm 19)),
 Qd 18 21 (.fad 9 (tm 1)),
 Qd 19 22 (.load false 1 (tm 21)),
 Qd 20 23 (.bslO 3 1 [(tm 4), (tm 6), (tm 8), (tm 10), (tm 12), (tm 14), (tm 16), (tm 18), (tm 20), (tm 22)]),
 Qd 21 2 (.mv (tm 23))] [2] [1]
abbrev f117b : Pc := (.seq f117r0 (.seq f117r1 .ret))
abbrev f117 : Pfn := ⟨1, 24, [.tmp 2], f117b⟩
def f117K : Array (List Nat) := #[[1], [2]]
def f117H : Array (List Nat) := #[[2, 23], [1]]
def f117A : Ann := ⟨fun r => f117K.getD r [], fun r => f117H.getD r [], fun r i => ([(1, 20), (1, 20)] : List (Nat × Nat)).contains (r, i)⟩
theorem f117C : compF Go.Proofs.Tryz.prog f117A 117 = some f117 := by kernel_rfl

abbrev f118r0 : Pc := .reg [
 Qd 0 4 (.mv (kz 0))] [0, 1] []
abbrev f118r1 : Pc := .reg [
 Qd 0 6 (.mv (tm 0)),
 Qd 1 7 (.lenL (tm 6)),
 Qd 2 8 (.mv (kz 0))] [0, 1, 7, 8] []
abbrev f118r2 : Pc := .reg [
 Qd 0 9 (.bin .lss (tm 8) (tm 7))] [0, 1, 7, 8, 9] []
abbrev f118r3 : Pc := .reg [
 Qd 0 10 (.mv (tm 8)),
 Qd 1 5 (.mv (tm 10))] [0, 1, 5, 7, 8] []
abbrev f118r4 : Pc := .reg [
 Qd 0 11 (.mv (tm 1)),
 Qd 1 12 (.mv (tm 0)),
 Qd 2 13 (.mv (tm 5)),
 Qd 3 14 (.ixS 5 (tm 12) (tm 13)),
 Qd 4 15 (.load true 5 (tm 14)),
 Qd 5 16 (.callv (tm 11) [(tm 15)])] [0, 1, 5, 7, 8, 16] []
abbrev f118r5 : Pc := .reg [
 Qd 0 17 (.mv (tm 5)),
 Qd 1 4 (.mv (tm 17))] [4] []
abbrev f118r6 : Pc := .reg [
 Qd 0 18 (.bin .add (tm 8) (kz 1)),
 Qd 1 8 (.mv (tm 18))] [0, 1, 7, 8] []
def f118l0 : Pc := (.seq f118r2 (.seq (.cond (tm 9) .skip (.exit 0)) (.seq (.block 1 (.seq f118r3 (.seq f118r4 (.cond (tm 16) (.seq f118r5 .ret) .skip)))) f118r6)))
theorem f118l0e (C : Cfg) (s : St) : evL C f118l0 s = evL C (.seq f118r2 (.seq (.cond (tm 9) .skip (.exit 0)) (.seq (.block 1 (.seq f118r3 (.seq f118r4 (.cond (tm 16) (.seq f118r5 .ret) .skip)))) f118r6))) s := rfl
abbrev f118r7 : Pc := .reg [
 Qd 0 4 (.mv (kz (-1)))] [4] []
abbrev f118b : Pc := (.seq f118r0 (.seq (.seq f118r1 (.block 0 (.loop f118l0))) (.seq f118r7 .ret)))
abbrev f118 : Pfn := ⟨2, 19, [.tmp 4], f118b⟩
def f118K : Array (List Nat) := #[[0, 1], [0, 1, 7, 8], [0, 1, 7, 8, 9], [0, 1, 5, 7, 8], [0, 1, 5, 7, 8, 16], [4], [0, 1, 7, 8], [4]]
def f118H : Array (List Nat) := #[[], [], [], [], [], [], [], []]
def f118A : Ann := ⟨fun r => f118K.getD r [], fun r => f118H.getD r [], fun r i => ([] : List (Nat × Nat)).contains (r, i)⟩
theorem f118C : compF Go.Proofs.Tryz.prog f118A 118 = some f118 := by kernel_rfl

abbrev f119r0 : Pc := .reg [
 Qd 0 2 (.box 165 5 (tm 0)),
 Qd 1 3 (.mv kF)] [1, 2] []
abbrev f119r1 : Pc := .reg [
 Qd 0 4 (.fad 0 (tm 2)),
 Qd 1 5 (.load true 4 (tm 4)),
 Qd 2 6 (.load true 4 (tm 1)),
 Qd 3 7 (.beqS [0, 0, 0, 0] false (tm 5) (tm 6)),
 Qd 4 3 (.mv (tm 7))] [3] [2]
abbrev f119b : Pc := (.seq f119r0 (.seq f119r1 .ret))
abbrev f119 : Pfn := ⟨2, 8, [.tmp 3], f119b⟩
def f119K : Array (List Nat) := #[[1, 2], [3]]
def f119H : Array (List Nat) := #[[], [2]]
def f119A : Ann := ⟨fun r => f119K.getD r [], fun r => f119H.getD r [], fun r i => ([] : List (Nat × Nat)).contains (r, i)⟩
theorem f119C : compF Go.Proofs.Tryz.prog f119A 119 = some f119 := by kernel_rfl

abbrev f120r0 : Pc := .reg [
 Qd 0 4 (.nilv 3 1),
 Qd 1 5 (.mv kF)] [0, 1] [4, 6, 28]
abbrev f120r1 : Pc := .reg [
 Qd 0 6 (.nilv 3 1)] [0, 1, 6] []
abbrev f120r2 : Pc := .reg [
 Qd 0 11 (.mv (tm 0)),
 Qd 1 12 (.lenL (tm 11)),
 Qd 2 13 (.mv (kz 0))] [1, 6, 11, 12, 13] []
abbrev f120r3 : Pc := .reg [
 Qd 0 14 (.bin .lss (tm 13) (tm 12))] [1, 6, 11, 12, 13, 14] []
abbrev f120r4 : Pc := .reg [
 Qd 0 15 (.ixS 1 (tm 11) (tm 13)),
 Qd 1 16 (.load false 1 (tm 15)),
 Qd 2 8 (.mv (tm 16))] [1, 6, 8, 11, 12, 13] []
abbrev f120r5 : Pc := .reg [
 Qd 0 18 (.mv (tm 8)),
 Qd 1 19 (.mv (tm 1)),
 Qd 2 20 (.call 146 [(tm 18), (tm 19)]),
 Qd 3 17 (.mv (tm 20)),
 Qd 4 21 (.ext 0 (tm 17)),
 Qd 5 22 (.ext 1 (tm 17)),
 Qd 6 9 (.mv (tm 21)),
 Qd 7 10 (.mv (tm 22))] [1, 6, 9, 10, 11, 12, 13] []
abbrev f120r6 : Pc := .reg [
 Qd 0 23 (.mv (tm 10)),
 Qd 1 24 (.un .not (tm 23))] [1, 6, 9, 11, 12, 13, 24] []
abbrev f120r7 : Pc := .reg [
 Qd 0 4 (.nilv 3 1),
 Qd 1 5 (.mv kF)] [4, 5] []
abbrev f120r8 : Pc := .reg [
 Qd 0 25 (.mv (tm 6)),
 Qd 1 26 (.mv (tm 9)),
 Qd 2 27 (.bslT 1 [(tm 26)]),
 Qd 3 28 (.app 3 1 8 (tm 25) (tm 27)),
 Qd 4 6 (.mv (tm 28))] [1, 6, 11, 12, 13] []
abbrev f120r9 : Pc := .reg [
 Qd 0 29 (.bin .add (tm 13) (kz 1)),
 Qd 1 13 (.mv (tm 29))] [1, 6, 11, 12, 13] []
def f120l0 : Pc := (.seq f120r3 (.seq (.cond (tm 14) .skip (.exit 0)) (.seq (.block 1 (.seq f120r4 (.seq f120r5 (.seq (.seq f120r6 (.cond (tm 24) (.seq f120r7 .ret) .skip)) f120r8)))) f120r9)))
theorem f120l0e (C : Cfg) (s : St) : evL C f120l0 s = evL C (.seq f120r3 (.seq (.cond (tm 14) .skip (.exit 0)) (.seq (.block 1 (.seq f120r4 (.seq f120r5 (.seq (.seq f120r6 (.cond (tm 24) (.seq f120r7 .ret) .skip)) f120r8)))) f120r9))) s := rfl
abbrev f120r10 : Pc := .reg [
 Qd 0 30 (.mv (tm 6)),
 Qd 1 4 (.mv (tm 30)),
 Qd 2 5 (.mv kT)] [4, 5] []
abbrev f120b : Pc := (.seq f120r0 (.seq f120r1 (.seq (.seq f120r2 (.block 0 (.loop f120l0))) (.seq f120r10 .ret))))
abbrev f120 : Pfn := ⟨2, 31, [.tmp 4, .tmp 5], f120b⟩
def f120K : Array (List Nat) := #[[0, 1], [0, 1, 6], [1, 6, 11, 12, 13], [1, 6, 11, 12, 13, 14], [1, 6, 8, 11, 12, 13], [1, 6, 9, 10, 11, 12, 13], [1, 6, 9, 11, 12, 13, 24], [4, 5], [1, 6, 11, 12, 13], [1, 6, 11, 12, 13], [4, 5]]
def f120H : Array (List Nat) := #[[4, 6, 28], [], [], [], [], [], [], [], [], [], []]
def f120A : Ann := ⟨fun r => f120K.getD r [], fun r => f120H.getD r [], fun r i => ([] : List (Nat × Nat)).contains (r, i)⟩
theorem f120C : compF Go.Proofs.Tryz.prog f120A 120 = some f120 := by kernel_rfl

abbrev f121r0 : Pc := .reg [
 Qd 0 2 (.nilv 3 1)] [0] [2]
abbrev f121r1 : Pc := .reg [
 Qd 0 3 (.mv (tm 0)),
 Qd 1 4 (.call 141 [(tm 3), (.c (.fn 147 []))]),
 Qd 2 2 (.mv (tm 4))] [2] []
abbrev f121b : Pc := (.seq f121r0 (.seq f121r1 .ret))
abbrev f121 : Pfn := ⟨1, 5, [.tmp 2], f121b⟩
def f121K : Array (List Nat) := #[[0], [2]]
def f121H : Array (List Nat) := #[[2], []]
def f121A : Ann := ⟨fun r => f121K.getD r [], fun r => f121H.getD r [], fun r i => ([] : List (Nat × Nat)).contains (r, i)⟩
theorem f121C : compF Go.Proofs.Tryz.prog f121A 121 = some f121 := by kernel_rfl

abbrev f122r0 : Pc := .reg [
 Qd 0 2 (.nilv 165 5)] [0] [2, 5, 7]
abbrev f122r1 : Pc := .reg [
 Qd 0 3 (.mv (tm 0)),
 Qd 1 4 (.isnilS false (tm 3))] [0, 4] []
abbrev f122r2 : Pc := .reg [
 Qd 0 2 (.nilv 165 5)] [2] []
abbrev f122r3 : Pc := .reg [
 Qd 0 5 (.bslO 165 5 []),
 Qd 1 6 (.mv (tm 0)),
 Qd 2 7 (.app 165 5 56 (tm 5) (tm 6)),
 Qd 3 2 (.mv (tm 7))] [2] []
abbrev f122b : Pc := (.seq f122r0 (.seq (.seq f122r1 (.cond (tm 4) (.seq f122r2 .ret) .skip)) (.seq f122r3 .ret)))
abbrev f122 : Pfn := ⟨1, 8, [.tmp 2], f122b⟩
def f122K : Array (List Nat) := #[[0], [0, 4], [2], [2]]
def f122H : Array (List Nat) := #[[2, 5, 7], [], [], []]
def f122A : Ann := ⟨fun r => f122K.getD r [], fun r => f122H.getD r [], fun r i => ([(3, 0), (3, 0)] : List (Nat × Nat)).contains (r, i)⟩
theorem f122C : compF Go.Proofs.Tryz.prog f122A 122 = some f122 := by kernel_rfl

abbrev f123r0 : Pc := .reg [
 Qd 0 2 (.mv (.c (.t (.s []))))] [0] []
abbrev f123r1 : Pc := .reg [
 Qd 0 3 (.mv (tm 0)),
 Qd 1 4 (.cvi .u8 (tm 3)),
 Qd 2 5 (.mv (tm 0)),
 Qd 3 6 (.bin .shr (tm 5) (.c (.t (.i .u64 8)))),
 Qd 4 7 (.cvi .u8 (tm 6)),
 Qd 5 8 (.mv (tm 0)),
 Qd 6 9 (.bin .shr (tm 8) (.c (.t (.i .u64 16)))),
 Qd 7 10 (.cvi .u8 (tm 9)),
 Qd 8 11 (.mv (tm 0)),
 Qd 9 12 (.bin .shr (tm 11) (.c (.t (.i .u64 24)))),
 Qd 10 13 (.cvi .u8 (tm 12)),
 Qd 11 14 (.bslT 1 [(tm 4), (tm 7), (tm 10), (tm 13)]),
 Qd 12 15 (.cvbs (tm 14)),
 Qd 13 2 (.mv (tm 15))] [2] []
abbrev f123b : Pc := (.seq f123r0 (.seq f123r1 .ret))
abbrev f123 : Pfn := ⟨1, 16, [.tmp 2], f123b⟩
def f123K : Array (List Nat) := #[[0], [2]]
def f123H : Array (List Nat) := #[[], []]
def f123A : Ann := ⟨fun r => f123K.getD r [], fun r => f123H.getD r [], fun r i => ([] : List (Nat × Nat)).contains (r, i)⟩
theorem f123C : compF Go.Proofs.Tryz.prog f123A 123 = some f123 := by kernel_rfl

abbrev f124r0 : Pc := .reg [
 Qd 0 4 (.mv (kz 0))] [0, 1] []
abbrev f124r1 : Pc := .reg [
 Qd 0 6 (.mv (tm 0)),
 Qd 1 7 (.lenL (tm 6)),
 Qd 2 8 (.mv (kz 0))] [0, 1, 7, 8] []
abbrev f124r2 : Pc := .reg [
 Qd 0 9 (.bin .lss (tm 8) (tm 7))] [0, 1, 7, 8, 9] []
abbrev f124r3 : Pc := .reg [
 Qd 0 10 (.mv (tm 8)),
 Qd 1 5 (.mv (tm 10))] [0, 1, 5, 7, 8] []
abbrev f124r4 : Pc := .reg [
 Qd 0 11 (.mv (tm 1)),
 Qd 1 12 (.mv (tm 0)),
 Qd 2 13 (.mv (tm 5)),
 Qd 3 14 (.ixS 1 (tm 12) (tm 13)),
 Qd 4 15 (.load false 1 (tm 14)),
 Qd 5 16 (.bin .eql (tm 11) (tm 15))] [0, 1, 5, 7, 8, 16] []
abbrev f124r5 : Pc := .reg [
 Qd 0 17 (.mv (tm 5)),
 Qd 1 4 (.mv (tm 17))] [4] []
abbrev f124r6 : Pc := .reg [
 Qd 0 18 (.bin .add (tm 8) (kz 1)),
 Qd 1 8 (.mv (tm 18))] [0, 1, 7, 8] []
def f124l0 : Pc := (.seq f124r2 (.seq (.cond (tm 9) .skip (.exit 0)) (.seq (.block 1 (.seq f124r3 (.seq f124r4 (.cond (tm 16) (.seq f124r5 .ret) .skip)))) f124r6)))
theorem f124l0e (C : Cfg) (s : St) : evL C f124l0 s = evL C (.seq f124r2 (.seq (.cond (tm 9) .skip (.exit 0)) (.seq (.block 1 (.seq f124r3 (.seq f124r4 (.cond (tm 16) (.seq f124r5 .ret) .skip)))) f124r6))) s := rfl
abbrev f124r7 : Pc := .reg [
 Qd 0 4 (.mv (kz (-1)))] [4] []
abbrev f124b : Pc := (.seq f124r0 (.seq (.seq f124r1 (.block 0 (.loop f124l0))) (.seq f124r7 .ret)))
abbrev f124 : Pfn := ⟨2, 19, [.tmp 4], f124b⟩
def f124K : Array (List Nat) := #[[0, 1], [0, 1, 7, 8], [0, 1, 7, 8, 9], [0, 1, 5, 7, 8], [0, 1, 5, 7, 8, 16], [4], [0, 1, 7, 8], [4]]
def f124H : Array (List Nat) := #[[], [], [], [], [], [], [], []]
def f124A : Ann := ⟨fun r => f124K.getD r [], fun r => f124H.getD r [], fun r i => ([] : List (Nat × Nat)).contains (r, i)⟩
theorem f124C : compF Go.Proofs.Tryz.prog f124A 124 = some f124 := by kernel_rfl

abbrev f136r0 : Pc := .reg [
 Qd 0 3 (.mv kF)] [0, 1] []
abbrev f136r1 : Pc := .reg [
 Qd 0 4 (.mv (tm 0)),
 Qd 1 5 (.lenL (tm 4)),
 Qd 2 6 (.load false 1 (tm 1)),
 Qd 3 7 (.bin .neq (tm 5) (tm 6)),
 Qd 4 8 (.mv (tm 7)),
 Gf 5 9 8 (.mv (tm 0)),
 Gf 6 10 8 (.call 69 [(tm 9), (.c (.fn 137 []))]),
 Qd 7 11 (.pick (tm 8) kT (tm 10)),
 Qd 8 3 (.mv (tm 11))] [3] []
abbrev f136b : Pc := (.seq f136r0 (.seq f136r1 .ret))
abbrev f136 : Pfn := ⟨2, 12, [.tmp 3], f136b⟩
def f136K : Array (List Nat) := #[[0, 1], [3]]
def f136H : Array (List Nat) := #[[], []]
def f136A : Ann := ⟨fun r => f136K.getD r [], fun r => f136H.getD r [], fun r i => ([] : List (Nat × Nat)).contains (r, i)⟩
theorem f136C : compF Go.Proofs.Tryz.prog f136A 136 = some f136 := by kernel_rfl

abbrev f137r0 : Pc := .reg [
 Qd 0 2 (.mv kF)] [0] []
abbrev f137r1 : Pc := .reg [
 Qd 0 3 (.mv (tm 0)),
 Qd 1 4 (.call 71 [(tm 3)]),
 Qd 2 5 (.mv (tm 0)),
 Qd 3 6 (.bin .neq (tm 4) (tm 5)),
 Qd 4 2 (.mv (tm 6))] [2] []
abbrev f137b : Pc := (.seq f137r0 (.seq f137r1 .ret))
abbrev f137 : Pfn := ⟨1, 7, [.tmp 2], f137b⟩
def f137K : Array (List Nat) := #[[0], [2]]
def f137H : Array (List Nat) := #[[], []]
def f137A : Ann := ⟨fun r => f137K.getD r [], fun r => f137H.getD r [], fun r i => ([] : List (Nat × Nat)).contains (r, i)⟩
theorem f137C : compF Go.Proofs.Tryz.prog f137A 137 = some f137 := by kernel_rfl

abbrev f138r0 : Pc := .reg [
 Qd 0 4 (.mv (kz 0))] [0, 1] []
abbrev f138r1 : Pc := .reg [
 Qd 0 6 (.mv (tm 0)),
 Qd 1 7 (.lenL (tm 6)),
 Qd 2 8 (.mv (kz 0))] [0, 1, 7, 8] []
abbrev f138r2 : Pc := .reg [
 Qd 0 9 (.bin .lss (tm 8) (tm 7))] [0, 1, 7, 8, 9] []
abbrev f138r3 : Pc := .reg [
 Qd 0 10 (.mv (tm 8)),
 Qd 1 5 (.mv (tm 10))] [0, 1, 5, 7, 8] []
abbrev f138r4 : Pc := .reg [
 Qd 0 11 (.mv (tm 1)),
 Qd 1 12 (.mv (tm 0)),
 Qd 2 13 (.mv (tm 5)),
 Qd 3 14 (.ixS 2 (tm 12) (tm 13)),
 Qd 4 15 (.load true 2 (tm 14)),
 Qd 5 16 (.callv (tm 11) [(tm 15)])] [0, 1, 5, 7, 8, 16] []
abbrev f138r5 : Pc := .reg [
 Qd 0 17 (.mv (tm 5)),
 Qd 1 4 (.mv (tm 17))] [4] []
abbrev f138r6 : Pc := .reg [
 Qd 0 18 (.bin .add (tm 8) (kz 1)),
 Qd 1 8 (.mv (tm 18))] [0, 1, 7, 8] []
def f138l0 : Pc := (.seq f138r2 (.seq (.cond (tm 9) .skip (.exit 0)) (.seq (.block 1 (.seq f138r3 (.seq f138r4 (.cond (tm 16) (.seq f138r5 .ret) .skip)))) f138r6)))
theorem f138l0e (C : Cfg) (s : St) : evL C f138l0 s = evL C (.seq f138r2 (.seq (.cond (tm 9) .skip (.exit 0)) (.seq (.block 1 (.seq f138r3 (.seq f138r4 (.cond (tm 16) (.seq f138r5 .ret) .skip)))) f138r6))) s := rfl
abbrev f138r7 : Pc := .reg [
 Qd 0 4 (.mv (kz (-1)))] [4] []
abbrev f138b : Pc := (.seq f138r0 (.seq (.seq f138r1 (.block 0 (.loop f138l0))) (.seq f138r7 .ret)))
abbrev f138 : Pfn := ⟨2, 19, [.tmp 4], f138b⟩
def f138K : Array (List Nat) := #[[0, 1], [0, 1, 7, 8], [0, 1, 7, 8, 9], [0, 1, 5, 7, 8], [0, 1, 5, 7, 8, 16], [4], [0, 1, 7, 8], [4]]
def f138H : Array (List Nat) := #[[], [], [], [], [], [], [], []]
def f138A : Ann := ⟨fun r => f138K.getD r [], fun r => f138H.getD r [], fun r i => ([] : List (Nat × Nat)).contains (r, i)⟩
theorem f138C : compF Go.Proofs.Tryz.prog f138A 138 = some f138 := by kernel_rfl

abbrev f139r0 : Pc := .reg [
 Qd 0 2 (.mv (kz 0)),
 Qd 1 3 (.mv (kz 0))] [0] []
abbrev f139r1 : Pc := .reg [
 Qd 0 5 (.mv (tm 0)),
 Qd 1 6 (.call 154 [(tm 5)]),
 Qd 2 4 (.mv (tm 6))] [0, 4] []
abbrev f139r2 : Pc := .reg [
 Qd 0 7 (.mv (tm 4)),
 Qd 1 8 (.mv (tm 0)),
 Qd 2 9 (.mv (tm 4)),
 Qd 3 10 (.call 155 [(tm 8), (tm 9)]),
 Qd 4 2 (.mv (tm 7)),
 Qd 5 3 (.mv (tm 10))] [2, 3] []
abbrev f139b : Pc := (.seq f139r0 (.seq f139r1 (.seq f139r2 .ret)))
abbrev f139 : Pfn := ⟨1, 11, [.tmp 2, .tmp 3], f139b⟩
def f139K : Array (List Nat) := #[[0], [0, 4], [2, 3]]
def f139H : Array (List Nat) := #[[], [], []]
def f139A : Ann := ⟨fun r => f139K.getD r [], fun r => f139H.getD r [], fun r i => ([] : List (Nat × Nat)).contains (r, i)⟩
theorem f139C : compF Go.Proofs.Tryz.prog f139A 139 = some f139 := by kernel_rfl

abbrev f140r0 : Pc := .reg [
 Qd 0 4 (.mv (kz 0)),
 Qd 1 5 (.mv (kz 0))] [0, 1] []
abbrev f140r1 : Pc := .reg [
 Qd 0 9 (.mv (tm 0)),
 Qd 1 10 (.call 71 [(tm 9)]),
 Qd 2 11 (.mm true [(tm 10), (kz 0)]),
 Qd 3 12 (.bin .add (tm 11) (kz 1)),
 Qd 4 13 (.mv (tm 1)),
 Qd 5 14 (.call 71 [(tm 13)]),
 Qd 6 15 (.mm true [(tm 14), (kz 0)]),
 Qd 7 16 (.bin .add (tm 15) (kz 1)),
 Qd 8 6 (.mv (tm 12)),
 Qd 9 7 (.mv (tm 16))] [6, 7] []
abbrev f140r2 : Pc := .reg [
 Qd 0 17 (.mv (tm 6)),
 Qd 1 18 (.bin .mul (tm 17) (kz 65536)),
 Qd 2 19 (.mv (tm 6)),
 Qd 3 20 (.mv (tm 7)),
 Qd 4 21 (.bin .add (tm 19) (tm 20)),
 Qd 5 22 (.bin .quo (tm 18) (tm 21)),
 Qd 6 8 (.mv (tm 22))] [8] []
abbrev f140r3 : Pc := .reg [
 Qd 0 23 (.mv (tm 8)),
 Qd 1 24 (.mv (tm 8)),
 Qd 2 25 (.bin .sub (kz 65536) (tm 24)),
 Qd 3 4 (.mv (tm 23)),
 Qd 4 5 (.mv (tm 25))] [4, 5] []
abbrev f140b : Pc := (.seq f140r0 (.seq f140r1 (.seq f140r2 (.seq f140r3 .ret))))
abbrev f140 : Pfn := ⟨2, 26, [.tmp 4, .tmp 5], f140b⟩
def f140K : Array (List Nat) := #[[0, 1], [6, 7], [8], [4, 5]]
def f140H : Array (List Nat) := #[[], [], [], []]
def f140A : Ann := ⟨fun r => f140K.getD r [], fun r => f140H.getD r [], fun r i => ([] : List (Nat × Nat)).contains (r, i)⟩
theorem f140C : compF Go.Proofs.Tryz.prog f140A 140 = some f140 := by kernel_rfl

abbrev f141r0 : Pc := .reg [
 Qd 0 4 (.nilv 3 1)] [0, 1] [4, 5, 21]
abbrev f141r1 : Pc := .reg [
 Qd 0 5 (.nilv 3 1)] [0, 1, 5] []
abbrev f141r2 : Pc := .reg [
 Qd 0 8 (.mv (tm 0)),
 Qd 1 9 (.lenL (tm 8)),
 Qd 2 10 (.mv (kz 0))] [1, 5, 8, 9, 10] []
abbrev f141r3 : Pc := .reg [
 Qd 0 11 (.bin .lss (tm 10) (tm 9))] [1, 5, 8, 9, 10, 11] []
abbrev f141r4 : Pc := .reg [
 Qd 0 12 (.mv (tm 10)),
 Qd 1 13 (.ixS 1 (tm 8) (tm 10)),
 Qd 2 14 (.load false 1 (tm 13)),
 Qd 3 6 (.mv (tm 12)),
 Qd 4 7 (.mv (tm 14))] [1, 5, 6, 7, 8, 9, 10] []
abbrev f141r5 : Pc := .reg [
 Qd 0 15 (.mv (tm 5)),
 Qd 1 16 (.mv (tm 1)),
 Qd 2 17 (.mv (tm 6)),
 Qd 3 18 (.mv (tm 7)),
 Qd 4 19 (.callv (tm 16) [(tm 17), (tm 18)]),
 Qd 5 20 (.bslT 1 [(tm 19)]),
 Qd 6 21 (.app 3 1 8 (tm 15) (tm 20)),
 Qd 7 5 (.mv (tm 21))] [1, 5, 8, 9, 10] []
abbrev f141r6 : Pc := .reg [
 Qd 0 22 (.bin .add (tm 10) (kz 1)),
 Qd 1 10 (.mv (tm 22))] [1, 5, 8, 9, 10] []
def f141l0 : Pc := (.seq f141r3 (.seq (.cond (tm 11) .skip (.exit 0)) (.seq (.block 1 (.seq f141r4 f141r5)) f141r6)))
theorem f141l0e (C : Cfg) (s : St) : evL C f141l0 s = evL C (.seq f141r3 (.seq (.cond (tm 11) .skip (.exit 0)) (.seq (.block 1 (.seq f141r4 f141r5)) f141r6))) s := rfl
abbrev f141r7 : Pc := .reg [
 Qd 0 23 (.mv (tm 5)),
 Qd 1 4 (.mv (tm 23))] [4] []
abbrev f141b : Pc := (.seq f141r0 (.seq f141r1 (.seq (.seq f141r2 (.block 0 (.loop f141l0))) (.seq f141r7 .ret))))
abbrev f141 : Pfn := ⟨2, 24, [.tmp 4], f141b⟩
def f141K : Array (List Nat) := #[[0, 1], [0, 1, 5], [1, 5, 8, 9, 10], [1, 5, 8, 9, 10, 11], [1, 5, 6, 7, 8, 9, 10], [1, 5, 8, 9, 10], [1, 5, 8, 9, 10], [4]]
def f141H : Array (List Nat) := #[[4, 5, 21], [], [], [], [], [], [], []]
def f141A : Ann := ⟨fun r => f141K.getD r [], fun r => f141H.getD r [], fun r i => ([] : List (Nat × Nat)).contains (r, i)⟩
theorem f141C : compF Go.Proofs.Tryz.prog f141A 141 = some f141 := by kernel_rfl

abbrev f142r0 : Pc := .reg [
 Qd 0 5 (.mv (kz 0))] [0, 1, 2] []
abbrev f142r1 : Pc := .reg [
 Qd 0 6 (.mv (tm 1)),
 Qd 1 7 (.load false 1 (tm 2)),
 Qd 2 8 (.mv (tm 0)),
 Qd 3 9 (.ixS 1 (tm 7) (tm 8)),
 Qd 4 10 (.load false 1 (tm 9)),
 Qd 5 11 (.call 143 [(tm 6), (tm 10)]),
 Qd 6 5 (.mv (tm 11))] [5] []
abbrev f142b : Pc := (.seq f142r0 (.seq f142r1 .ret))
abbrev f142 : Pfn := ⟨3, 12, [.tmp 5], f142b⟩
def f142K : Array (List Nat) := #[[0, 1, 2], [5]]
def f142H : Array (List Nat) := #[[], []]
def f142A : Ann := ⟨fun r => f142K.getD r [], fun r => f142H.getD r [], fun r i => ([] : List (Nat × Nat)).contains (r, i)⟩
theorem f142C : compF Go.Proofs.Tryz.prog f142A 142 = some f142 := by kernel_rfl

abbrev f143r0 : Pc := .reg [
 Qd 0 4 (.mv (kz 0))] [0, 1] []
abbrev f143r1 : Pc := .reg [
 Qd 0 5 (.mv (tm 0)),
 Qd 1 6 (.call 71 [(tm 5)]),
 Qd 2 7 (.mv (tm 1)),
 Qd 3 8 (.call 71 [(tm 7)]),
 Qd 4 9 (.bin .add (tm 6) (tm 8)),
 Qd 5 10 (.call 71 [(tm 9)]),
 Qd 6 4 (.mv (tm 10))] [4] []
abbrev f143b : Pc := (.seq f143r0 (.seq f143r1 .ret))
abbrev f143 : Pfn := ⟨2, 11, [.tmp 4], f143b⟩
def f143K : Array (List Nat) := #[[0, 1], [4]]
def f143H : Array (List Nat) := #[[], []]
def f143A : Ann := ⟨fun r => f143K.getD r [], fun r => f143H.getD r [], fun r i => ([] : List (Nat × Nat)).contains (r, i)⟩
theorem f143C : compF Go.Proofs.Tryz.prog f143A 143 = some f143 := by kernel_rfl

abbrev f144r0 : Pc := .reg [
 Qd 0 5 (.mv (kz 0))] [1, 2] []
abbrev f144r1 : Pc := .reg [
 Qd 0 6 (.mv (tm 1)),
 Qd 1 7 (.load false 1 (tm 2)),
 Qd 2 8 (.call 145 [(tm 6), (tm 7)]),
 Qd 3 5 (.mv (tm 8))] [5] []
abbrev f144b : Pc := (.seq f144r0 (.seq f144r1 .ret))
abbrev f144 : Pfn := ⟨3, 9, [.tmp 5], f144b⟩
def f144K : Array (List Nat) := #[[1, 2], [5]]
def f144H : Array (List Nat) := #[[], []]
def f144A : Ann := ⟨fun r => f144K.getD r [], fun r => f144H.getD r [], fun r i => ([] : List (Nat × Nat)).contains (r, i)⟩
theorem f144C : compF Go.Proofs.Tryz.prog f144A 144 = some f144 := by kernel_rfl

abbrev f145r0 : Pc := .reg [
 Qd 0 4 (.mv (kz 0))] [0, 1] []
abbrev f145r1 : Pc := .reg [
 Qd 0 5 (.mv (tm 0)),
 Qd 1 6 (.call 71 [(tm 5)]),
 Qd 2 7 (.mv (tm 1)),
 Qd 3 8 (.call 71 [(tm 7)]),
 Qd 4 9 (.bin .mul (tm 6) (tm 8)),
 Qd 5 10 (.bin .quo (tm 9) (kz 65536)),
 Qd 6 11 (.call 71 [(tm 10)]),
 Qd 7 4 (.mv (tm 11))] [4] []
abbrev f145b : Pc := (.seq f145r0 (.seq f145r1 .ret))
abbrev f145 : Pfn := ⟨2, 12, [.tmp 4], f145b⟩
def f145K : Array (List Nat) := #[[0, 1], [4]]
def f145H : Array (List Nat) := #[[], []]
def f145A : Ann := ⟨fun r => f145K.getD r [], fun r => f145H.getD r [], fun r i => ([] : List (Nat × Nat)).contains (r, i)⟩
theorem f145C : compF Go.Proofs.Tryz.prog f145A 145 = some f145 := by kernel_rfl

abbrev f146r0 : Pc := .reg [
 Qd 0 4 (.mv (kz 0)),
 Qd 1 5 (.mv kF)] [0, 1] []
abbrev f146r1 : Pc := .reg [
 Qd 0 9 (.mv (tm 0)),
 Qd 1 10 (.lenL (tm 9)),
 Qd 2 11 (.mv (tm 1)),
 Qd 3 12 (.lenL (tm 11)),
 Qd 4 13 (.bin .neq (tm 10) (tm 12))] [0, 1, 13] []
abbrev f146r2 : Pc := .reg [
 Qd 0 4 (.mv (kz 0)),
 Qd 1 5 (.mv kF)] [4, 5] []
abbrev f146r3 : Pc := .reg [
 Qd 0 6 (.mv (kz 0))] [0, 1, 6] []
abbrev f146r4 : Pc := .reg [
 Qd 0 14 (.mv (tm 0)),
 Qd 1 15 (.lenL (tm 14)),
 Qd 2 16 (.mv (kz 0))] [1, 6, 14, 15, 16] []
abbrev f146r5 : Pc := .reg [
 Qd 0 17 (.bin .lss (tm 16) (tm 15))] [1, 6, 14, 15, 16, 17] []
abbrev f146r6 : Pc := .reg [
 Qd 0 18 (.mv (tm 16)),
 Qd 1 19 (.ixS 1 (tm 14) (tm 16)),
 Qd 2 20 (.load false 1 (tm 19)),
 Qd 3 7 (.mv (tm 18)),
 Qd 4 8 (.mv (tm 20))] [1, 6, 7, 8, 14, 15, 16] []
abbrev f146r7 : Pc := .reg [
 Qd 0 21 (.mv (tm 6)),
 Qd 1 22 (.mv (tm 8)),
 Qd 2 23 (.mv (tm 1)),
 Qd 3 24 (.mv (tm 7)),
 Qd 4 25 (.ixS 1 (tm 23) (tm 24)),
 Qd 5 26 (.load false 1 (tm 25)),
 Qd 6 27 (.call 145 [(tm 22), (tm 26)]),
 Qd 7 28 (.call 143 [(tm 21), (tm 27)]),
 Qd 8 6 (.mv (tm 28))] [1, 6, 14, 15, 16] []
abbrev f146r8 : Pc := .reg [
 Qd 0 29 (.bin .add (tm 16) (kz 1)),
 Qd 1 16 (.mv (tm 29))] [1, 6, 14, 15, 16] []
def f146l0 : Pc := (.seq f146r5 (.seq (.cond (tm 17) .skip (.exit 0)) (.seq (.block 1 (.seq f146r6 f146r7)) f146r8)))
theorem f146l0e (C : Cfg) (s : St) : evL C f146l0 s = evL C (.seq f146r5 (.seq (.cond (tm 17) .skip (.exit 0)) (.seq (.block 1 (.seq f146r6 f146r7)) f146r8))) s := rfl
abbrev f146r9 : Pc := .reg [
 Qd 0 30 (.mv (tm 6)),
 Qd 1 4 (.mv (tm 30)),
 Qd 2 5 (.mv kT)] [4, 5] []
abbrev f146b : Pc := (.seq f146r0 (.seq (.seq f146r1 (.cond (tm 13) (.seq f146r2 .ret) .skip)) (.seq f146r3 (.seq (.seq f146r4 (.block 0 (.loop f146l0))) (.seq f146r9 .ret)))))
abbrev f146 : Pfn := ⟨2, 31, [.tmp 4, .tmp 5], f146b⟩
def f146K : Array (List Nat) := #[[0, 1], [0, 1, 13], [4, 5], [0, 1, 6], [1, 6, 14, 15, 16], [1, 6, 14, 15, 16, 17], [1, 6, 7, 8, 14, 15, 16], [1, 6, 14, 15, 16], [1, 6, 14, 15, 16], [4, 5]]
def f146H : Array (List Nat) := #[[], [], [], [], [], [], [], [], [], []]
def f146A : Ann := ⟨fun r => f146K.getD r [], fun r => f146H.getD r [], fun r i => ([] : List (Nat × Nat)).contains (r, i)⟩
theorem f146C : compF Go.Proofs.Tryz.prog f146A 146 = some f146 := by kernel_rfl

abbrev f147r0 : Pc := .reg [
 Qd 0 4 (.mv (kz 0))] [1] []
abbrev f147r1 : Pc := .reg [
 Qd 0 5 (.mv (tm 1)),
 Qd 1 6 (.call 71 [(tm 5)]),
 Qd 2 7 (.mm true [(tm 6), (kz 0)]),
 Qd 3 4 (.mv (tm 7))] [4] []
abbrev f147b : Pc := (.seq f147r0 (.seq f147r1 .ret))
abbrev f147 : Pfn := ⟨2, 8, [.tmp 4], f147b⟩
def f147K : Array (List Nat) := #[[1], [4]]
def f147H : Array (List Nat) := #[[], []]
def f147A : Ann := ⟨fun r => f147K.getD r [], fun r => f147H.getD r [], fun r i => ([] : List (Nat × Nat)).contains (r, i)⟩
theorem f147C : compF Go.Proofs.Tryz.prog f147A 147 = some f147 := by kernel_rfl

abbrev f154r0 : Pc := .reg [
 Qd 0 2 (.mv (kz 0))] [0] []
abbrev f154r1 : Pc := .reg [
 Qd 0 3 (.mv (tm 0)),
 Qd 1 4 (.call 155 [(tm 3), (kz (-1))]),
 Qd 2 2 (.mv (tm 4))] [2] []
abbrev f154b : Pc := (.seq f154r0 (.seq f154r1 .ret))
abbrev f154 : Pfn := ⟨1, 5, [.tmp 2], f154b⟩
def f154K : Array (List Nat) := #[[0], [2]]
def f154H : Array (List Nat) := #[[], []]
def f154A : Ann := ⟨fun r => f154K.getD r [], fun r => f154H.getD r [], fun r i => ([] : List (Nat × Nat)).contains (r, i)⟩
theorem f154C : compF Go.Proofs.Tryz.prog f154A 154 = some f154 := by kernel_rfl

abbrev f155r0 : Pc := .reg [
 Qd 0 4 (.mv (kz 0))] [0, 1] []
abbrev f155r1 : Pc := .reg [
 Qd 0 5 (.mv (kz (-1)))] [0, 1, 5] []
abbrev f155r2 : Pc := .reg [
 Qd 0 8 (.mv (tm 0)),
 Qd 1 9 (.lenL (tm 8)),
 Qd 2 10 (.mv (kz 0))] [0, 1, 5, 8, 9, 10] []
abbrev f155r3 : Pc := .reg [
 Qd 0 11 (.bin .lss (tm 10) (tm 9))] [0, 1, 5, 8, 9, 10, 11] []
abbrev f155r4 : Pc := .reg [
 Qd 0 12 (.mv (tm 10)),
 Qd 1 13 (.ixS 1 (tm 8) (tm 10)),
 Qd 2 14 (.load false 1 (tm 13)),
 Qd 3 6 (.mv (tm 12)),
 Qd 4 7 (.mv (tm 14))] [0, 1, 5, 6, 7, 8, 9, 10] []
abbrev f155r5 : Pc := .reg [
 Qd 0 15 (.mv (tm 6)),
 Qd 1 16 (.mv (tm 1)),
 Qd 2 17 (.bin .neq (tm 15) (tm 16)),
 Qd 3 18 (.mv (tm 17)),
 Gt 4 19 18 (.mv (tm 5)),
 Gt 5 20 18 (.bin .lss (tm 19) (kz 0)),
 Gt 6 21 18 (.mv (tm 20)),
 Gf 7 22 21 (.mv (tm 7)),
 Gf 8 23 21 (.mv (tm 0)),
 Gf 9 24 21 (.mv (tm 5)),
 Gf 10 25 21 (.ixS 1 (tm 23) (tm 24)),
 Gf 11 26 21 (.load false 1 (tm 25)),
 Gf 12 27 21 (.bin .gtr (tm 22) (tm 26)),
 Gt 13 28 18 (.pick (tm 21) kT (tm 27)),
 Qd 14 29 (.pick (tm 18) (tm 28) kF)] [0, 1, 5, 6, 8, 9, 10, 29] []
abbrev f155r6 : Pc := .reg [
 Qd 0 30 (.mv (tm 6)),
 Qd 1 5 (.mv (tm 30))] [0, 1, 5, 8, 9, 10] []
abbrev f155r7 : Pc := .reg [
 Qd 0 31 (.bin .add (tm 10) (kz 1)),
 Qd 1 10 (.mv (tm 31))] [0, 1, 5, 8, 9, 10] []
def f155l0 : Pc := (.seq f155r3 (.seq (.cond (tm 11) .skip (.exit 0)) (.seq (.block 1 (.seq f155r4 (.seq f155r5 (.cond (tm 29) f155r6 .skip)))) f155r7)))
theorem f155l0e (C : Cfg) (s : St) : evL C f155l0 s = evL C (.seq f155r3 (.seq (.cond (tm 11) .skip (.exit 0)) (.seq (.block 1 (.seq f155r4 (.seq f155r5 (.cond (tm 29) f155r6 .skip)))) f155r7))) s := rfl
abbrev f155r8 : Pc := .reg [
 Qd 0 32 (.mv (tm 5)),
 Qd 1 4 (.mv (tm 32))] [4] []
abbrev f155b : Pc := (.seq f155r0 (.seq f155r1 (.seq (.seq f155r2 (.block 0 (.loop f155l0))) (.seq f155r8 .ret))))
abbrev f155 : Pfn := ⟨2, 33, [.tmp 4], f155b⟩
def f155K : Array (List Nat) := #[[0, 1], [0, 1, 5], [0, 1, 5, 8, 9, 10], [0, 1, 5, 8, 9, 10, 11], [0, 1, 5, 6, 7, 8, 9, 10], [0, 1, 5, 6, 8, 9, 10, 29], [0, 1, 5, 8, 9, 10], [0, 1, 5, 8, 9, 10], [4]]
def f155H : Array (List Nat) := #[[], [], [], [], [], [], [], [], []]
def f155A : Ann := ⟨fun r => f155K.getD r [], fun r => f155H.getD r [], fun r i => ([] : List (Nat × Nat)).contains (r, i)⟩
theorem f155C : compF Go.Proofs.Tryz.prog f155A 155 = some f155 := by kernel_rfl


end Go.Proofs.YtbocnaoihepjfaaGreat.Pv
