import Derived.Test.YtlfjlpleodlkmaaGreatDoorEn1
import Derived.Test.YtlfjlpleodlkmaaGreatDoorEn3
import Derived.Test.YtlfjlpleodlkmaaGreatDoorProg
import Derived.KernelRfl
import Derived.Test.YtlfjlpleodlkmaaGreatDoorShort
namespace Go.Proofs.YtlfjlpleodlkmaaGreatDoor.Pv
open Go Go.Pev
abbrev f8r0 : Pc := .reg [
 Qd 0 2 (.mv kF)] [0] []
abbrev f8r1 : Pc := .reg [
 Qd 0 3 (.mv (.c (.t (.s []))))] [0, 3] []
abbrev f8r2 : Pc := .reg [
 Qd 0 14 (.mv (kz 0))] [0, 3, 14] []
abbrev f8r3 : Pc := .reg [
 Qd 0 15 (.bin .lss (tm 14) (kz 8))] [0, 3, 14, 15] []
abbrev f8r4 : Pc := .reg [
 Qd 0 16 (.mv (tm 14)),
 Qd 1 4 (.mv (tm 16))] [0, 3, 4, 14] []
abbrev f8r5 : Pc := .reg [
 Qd 0 17 (.mv (tm 0)),
 Qd 1 18 (.mv (tm 4)),
 Qd 2 19 (.bin .shr (tm 17) (tm 18)),
 Qd 3 20 (.bin .and (tm 19) (.c (.t (.i .u8 1)))),
 Qd 4 21 (.bin .eql (tm 20) (.c (.t (.i .u8 0))))] [0, 3, 14, 21] []
abbrev f8r6 : Pc := .reg [
 Qd 0 22 (.mv (tm 3)),
 Qd 1 23 (.bin .add (tm 22) (.c (.t (.s [100, 114, 111, 112, 32, 48, 10])))),
 Qd 2 3 (.mv (tm 23))] [0, 3, 14] []
abbrev f8r7 : Pc := .reg [
 Qd 0 24 (.mv (tm 3)),
 Qd 1 25 (.bin .add (tm 24) (.c (.t (.s [100, 114, 111, 112, 32, 48, 10, 100, 114, 111, 112, 32, 48, 10, 100, 114, 111, 112, 32, 48, 10, 100, 114, 111, 112, 32, 48, 10, 97, 115, 107, 10])))),
 Qd 2 3 (.mv (tm 25))] [0, 3, 14] []
abbrev f8r8 : Pc := .reg [
 Qd 0 26 (.bin .add (tm 14) (kz 1)),
 Qd 1 14 (.mv (tm 26))] [0, 3, 14] []
def f8l0 : Pc := (.seq f8r3 (.seq (.cond (tm 15) .skip (.exit 0)) (.seq (.block 1 (.seq f8r4 (.seq (.seq f8r5 (.cond (tm 21) (.seq f8r6 (.exit 1)) .skip)) f8r7))) f8r8)))
theorem f8l0e (C : Cfg) (s : St) : evL C f8l0 s = evL C (.seq f8r3 (.seq (.cond (tm 15) .skip (.exit 0)) (.seq (.block 1 (.seq f8r4 (.seq (.seq f8r5 (.cond (tm 21) (.seq f8r6 (.exit 1)) .skip)) f8r7))) f8r8))) s := rfl
abbrev f8r9 : Pc := .reg [
 Qd 0 27 (.mv (tm 3)),
 Qd 1 28 (.bin .add (tm 27) (.c (.t (.s [100, 114, 111, 112, 32, 48, 10, 100, 114, 111, 112, 32, 48, 10, 100, 114, 111, 112, 32, 48, 10, 100, 114, 111, 112, 32, 48, 10])))),
 Qd 2 3 (.mv (tm 28))] [3] []
abbrev f8r10 : Pc := .reg [
 Qd 0 29 (.mv (tm 3)),
 Qd 1 30 (.bin .add (tm 29) (.c (.t (.s [98, 97, 103, 10, 100, 111, 110, 101])))),
 Qd 2 31 (.call 14 [(tm 30)]),
 Qd 3 5 (.mv (tm 31))] [3, 5] []
abbrev f8r11 : Pc := .reg [
 Qd 0 32 (.mv (kz 0))] [3, 5, 32] []
abbrev f8r12 : Pc := .reg [
 Qd 0 33 (.bin .lss (tm 32) (kz 8))] [3, 5, 32, 33] []
abbrev f8r13 : Pc := .reg [
 Qd 0 34 (.mv (tm 3)),
 Qd 1 35 (.bin .add (tm 34) (.c (.t (.s [97, 115, 107, 10])))),
 Qd 2 3 (.mv (tm 35))] [3, 5, 32] []
abbrev f8r14 : Pc := .reg [
 Qd 0 36 (.mv (kz 0))] [3, 5, 32, 36] []
abbrev f8r15 : Pc := .reg [
 Qd 0 37 (.bin .lss (tm 36) (kz 30))] [3, 5, 32, 36, 37] []
abbrev f8r16 : Pc := .reg [
 Qd 0 38 (.mv (tm 3)),
 Qd 1 39 (.bin .add (tm 38) (.c (.t (.s [100, 101, 108, 105, 118, 101, 114, 32, 48, 10])))),
 Qd 2 3 (.mv (tm 39))] [3, 5, 32, 36] []
abbrev f8r17 : Pc := .reg [
 Qd 0 40 (.bin .add (tm 36) (kz 1)),
 Qd 1 36 (.mv (tm 40))] [3, 5, 32, 36] []
def f8l1 : Pc := (.seq f8r15 (.seq (.cond (tm 37) .skip (.exit 4)) (.seq (.block 5 f8r16) f8r17)))
theorem f8l1e (C : Cfg) (s : St) : evL C f8l1 s = evL C (.seq f8r15 (.seq (.cond (tm 37) .skip (.exit 4)) (.seq (.block 5 f8r16) f8r17))) s := rfl
abbrev f8r18 : Pc := .reg [
 Qd 0 41 (.bin .add (tm 32) (kz 1)),
 Qd 1 32 (.mv (tm 41))] [3, 5, 32] []
def f8l2 : Pc := (.seq f8r12 (.seq (.cond (tm 33) .skip (.exit 2)) (.seq (.block 3 (.seq f8r13 (.seq f8r14 (.block 4 (.loop f8l1))))) f8r18)))
theorem f8l2e (C : Cfg) (s : St) : evL C f8l2 s = evL C (.seq f8r12 (.seq (.cond (tm 33) .skip (.exit 2)) (.seq (.block 3 (.seq f8r13 (.seq f8r14 (.block 4 (.loop f8l1))))) f8r18))) s := rfl
abbrev f8r19 : Pc := .reg [
 Qd 0 42 (.mv (tm 3)),
 Qd 1 43 (.bin .add (tm 42) (.c (.t (.s [100, 111, 110, 101])))),
 Qd 2 44 (.call 14 [(tm 43)]),
 Qd 3 6 (.mv (tm 44))] [5, 6] []
abbrev f8r20 : Pc := .reg [
 Qd 0 7 (.mv (.c (.t (.s [111, 107, 32, 48, 32, 48, 10, 111, 107, 10]))))] [5, 6, 7] []
abbrev f8r21 : Pc := .reg [
 Qd 0 45 (.bslT 1 [(kz 65536)]),
 Qd 1 46 (.bslT 1 [(tm 45)]),
 Qd 2 47 (.bslT 1 [(kz 131072)]),
 Qd 3 48 (.bslT 1 [(tm 47)]),
 Qd 4 8 (.mv (tm 46)),
 Qd 5 9 (.mv (tm 48))] [5, 6, 7, 8, 9] []
abbrev f8r22 : Pc := .reg [
 Qd 0 49 (.bslT 1 [(kz 65536)]),
 Qd 1 50 (.bslT 1 [(kz 0)]),
 Qd 2 51 (.bslT 1 [(tm 49), (tm 50)]),
 Qd 3 52 (.mv (tm 8)),
 Qd 4 53 (.mv (tm 8)),
 Qd 5 54 (.build [.nl, .nl] [(0, 1, (tm 52)), (1, 1, (tm 53))]),
 Qd 6 55 (.mv (tm 8)),
 Qd 7 56 (.mv (tm 9)),
 Qd 8 57 (.build [.nl, .nl] [(0, 1, (tm 55)), (1, 1, (tm 56))]),
 Qd 9 58 (.bslT 2 [(tm 54), (tm 57)]),
 Qd 10 59 (.build [.nl, .nl, (.t (.i .i64 0))] [(0, 1, (tm 51)), (1, 1, (tm 58)), (2, 1, (kz 2))]),
 Qd 11 10 (.alloc 37 [.nl, .nl, (.t (.i .i64 0))]),
 Qn 12 (.store 3 (tm 10) (tm 59))] [5, 6, 7, 10] []
abbrev f8r23 : Pc := .reg [
 Qd 0 11 (.mv (.c (.t (.s [10, 111, 107]))))] [5, 6, 7, 10, 11] []
abbrev f8r24 : Pc := .reg [
 Qd 0 60 (.load true 3 (tm 10)),
 Qd 1 61 (.bslT 3 [(tm 60)]),
 Qd 2 62 (.build [(.t (.i .i64 0)), .nl] [(0, 1, (kz 1)), (1, 1, (tm 61))]),
 Qd 3 63 (.bslT 1 [(kz 100)]),
 Qd 4 64 (.bslT 1 [(kz 50)]),
 Qd 5 65 (.bslT 1 [(kz 7)]),
 Qd 6 66 (.bslT 1 [(tm 63), (tm 64), (tm 65)]),
 Qd 7 67 (.call 15 [(tm 62), (tm 66)]),
 Qd 8 68 (.lenL (tm 67)),
 Qd 9 69 (.mv (kz 0))] [5, 6, 7, 11, 67, 68, 69] [10]
abbrev f8r25 : Pc := .reg [
 Qd 0 70 (.bin .lss (tm 69) (tm 68))] [5, 6, 7, 11, 67, 68, 69, 70] []
abbrev f8r26 : Pc := .reg [
 Qd 0 71 (.ixS 1 (tm 67) (tm 69)),
 Qd 1 72 (.load false 1 (tm 71)),
 Qd 2 13 (.mv (tm 72))] [5, 6, 7, 11, 13, 67, 68, 69] []
abbrev f8r27 : Pc := .reg [
 Qd 0 73 (.mv (tm 11)),
 Qd 1 74 (.mv (tm 13)),
 Qd 2 75 (.ixS 1 (tm 74) (kz 0)),
 Qd 3 76 (.load false 1 (tm 75)),
 Qd 4 77 (.mm true [(tm 76), (kz 0)]),
 Qd 5 78 (.call 16 [(tm 77)]),
 Qd 6 79 (.bin .add (.c (.t (.s [32]))) (tm 78)),
 Qd 7 80 (.bin .add (tm 73) (tm 79)),
 Qd 8 11 (.mv (tm 80))] [5, 6, 7, 11, 67, 68, 69] []
abbrev f8r28 : Pc := .reg [
 Qd 0 81 (.bin .add (tm 69) (kz 1)),
 Qd 1 69 (.mv (tm 81))] [5, 6, 7, 11, 67, 68, 69] []
def f8l3 : Pc := (.seq f8r25 (.seq (.cond (tm 70) .skip (.exit 6)) (.seq (.block 7 (.seq f8r26 f8r27)) f8r28)))
theorem f8l3e (C : Cfg) (s : St) : evL C f8l3 s = evL C (.seq f8r25 (.seq (.cond (tm 70) .skip (.exit 6)) (.seq (.block 7 (.seq f8r26 f8r27)) f8r28))) s := rfl
abbrev f8r29 : Pc := .reg [
 Qd 0 82 (.mv (tm 11)),
 Qd 1 83 (.bin .add (tm 82) (.c (.t (.s [10])))),
 Qd 2 11 (.mv (tm 83))] [5, 6, 7, 11] []
abbrev f8r30 : Pc := .reg [
 Qd 0 84 (.mv (tm 5)),
 Qd 1 85 (.lenS (tm 84)),
 Qd 2 86 (.mv (tm 7)),
 Qd 3 87 (.lenS (tm 86)),
 Qd 4 88 (.bin .geq (tm 85) (tm 87)),
 Qd 5 89 (.mv (tm 88)),
 Gt 6 90 89 (.mv (tm 5)),
 Gt 7 91 89 (.mv (tm 5)),
 Gt 8 92 89 (.lenS (tm 91)),
 Gt 9 93 89 (.mv (tm 7)),
 Gt 10 94 89 (.lenS (tm 93)),
 Gt 11 95 89 (.bin .sub (tm 92) (tm 94)),
 Gt 12 96 89 (.slS (tm 90) (some (tm 95)) none),
 Gt 13 97 89 (.mv (tm 7)),
 Gt 14 98 89 (.bin .eql (tm 96) (tm 97)),
 Qd 15 99 (.pick (tm 89) (tm 98) kF),
 Qd 16 100 (.mv (tm 99)),
 Gt 17 101 100 (.mv (tm 6)),
 Gt 18 102 100 (.lenS (tm 101)),
 Gt 19 103 100 (.mv (tm 11)),
 Gt 20 104 100 (.lenS (tm 103)),
 Gt 21 105 100 (.bin .geq (tm 102) (tm 104)),
 Qd 22 106 (.pick (tm 100) (tm 105) kF),
 Qd 23 107 (.mv (tm 106)),
 Gt 24 108 107 (.mv (tm 6)),
 Gt 25 109 107 (.mv (tm 6)),
 Gt 26 110 107 (.lenS (tm 109)),
 Gt 27 111 107 (.mv (tm 11)),
 Gt 28 112 107 (.lenS (tm 111)),
 Gt 29 113 107 (.bin .sub (tm 110) (tm 112)),
 Gt 30 114 107 (.slS (tm 108) (some (tm 113)) none),
 Gt 31 115 107 (.mv (tm 11)),
 Gt 32 116 107 (.bin .eql (tm 114) (tm 115)),
 Qd 33 117 (.pick (tm 107) (tm 116) kF),
 Qd 34 118 (.mv (tm 117)),
 Gt 35 119 118 (.call 10 []),
 Qd 36 120 (.pick (tm 118) (tm 119) kF),
 Qd 37 2 (.mv (tm 120))] [2] []
abbrev f8b : Pc := (.seq f8r0 (.seq f8r1 (.seq (.seq f8r2 (.block 0 (.loop f8l0))) (.seq f8r9 (.seq f8r10 (.seq (.seq f8r11 (.block 2 (.loop f8l2))) (.seq f8r19 (.seq f8r20 (.seq f8r21 (.seq f8r22 (.seq f8r23 (.seq (.seq f8r24 (.block 6 (.loop f8l3))) (.seq f8r29 (.seq f8r30 .ret))))))))))))))
abbrev f8 : Pfn := ⟨1, 121, [.tmp 2], f8b⟩
def f8K : Array (List Nat) := #[[0], [0, 3], [0, 3, 14], [0, 3, 14, 15], [0, 3, 4, 14], [0, 3, 14, 21], [0, 3, 14], [0, 3, 14], [0, 3, 14], [3], [3, 5], [3, 5, 32], [3, 5, 32, 33], [3, 5, 32], [3, 5, 32, 36], [3, 5, 32, 36, 37], [3, 5, 32, 36], [3, 5, 32, 36], [3, 5, 32], [5, 6], [5, 6, 7], [5, 6, 7, 8, 9], [5, 6, 7, 10], [5, 6, 7, 10, 11], [5, 6, 7, 11, 67, 68, 69], [5, 6, 7, 11, 67, 68, 69, 70], [5, 6, 7, 11, 13, 67, 68, 69], [5, 6, 7, 11, 67, 68, 69], [5, 6, 7, 11, 67, 68, 69], [5, 6, 7, 11], [2]]
def f8H : Array (List Nat) := #[[], [], [], [], [], [], [], [], [], [], [], [], [], [], [], [], [], [], [], [], [], [], [], [], [10], [], [], [], [], [], []]
def f8A : Ann := ⟨fun r => f8K.getD r [], fun r => f8H.getD r [], fun r i => ([] : List (Nat × Nat)).contains (r, i)⟩
theorem f8C : compF Go.Proofs.Tryz.prog f8A 8 = some f8 := by kernel_rfl

abbrev f10r0 : Pc := .reg [
 Qd 0 0 (.mv kF)] [] []
abbrev f10r1 : Pc := .reg [
 Qd 0 1 (.call 14 [(.c (.t (.s [98, 97, 103, 10, 100, 111, 110, 101, 10, 100, 114, 111, 112, 32, 57, 10, 119, 104, 97, 116, 10, 114, 101, 116, 105, 114, 101, 32, 48, 32, 49, 10, 114, 101, 116, 105, 114, 101, 32, 48, 32, 50])))]),
 Qd 1 2 (.bin .eql (tm 1) (.c (.t (.s [111, 107, 32, 52, 32, 48, 10, 111, 107, 10, 101, 114, 114, 111, 114, 32, 52, 10, 101, 114, 114, 111, 114, 32, 50, 10, 111, 107, 10, 101, 114, 114, 111, 114, 32, 55, 10])))),
 Qd 2 0 (.mv (tm 2))] [0] []
abbrev f10b : Pc := (.seq f10r0 (.seq f10r1 .ret))
abbrev f10 : Pfn := ⟨0, 3, [.tmp 0], f10b⟩
def f10K : Array (List Nat) := #[[], [0]]
def f10H : Array (List Nat) := #[[], []]
def f10A : Ann := ⟨fun r => f10K.getD r [], fun r => f10H.getD r [], fun r i => ([] : List (Nat × Nat)).contains (r, i)⟩
theorem f10C : compF Go.Proofs.Tryz.prog f10A 10 = some f10 := by kernel_rfl

abbrev f14r0 : Pc := .reg [
 Qd 0 2 (.mv (.c (.t (.s []))))] [0] []
abbrev f14r1 : Pc := .reg [
 Qd 0 7 (.mv (tm 0)),
 Qd 1 8 (.bin .eql (tm 7) (.c (.t (.s []))))] [0, 8] []
abbrev f14r2 : Pc := .reg [
 Qd 0 2 (.mv (.c (.t (.s []))))] [2] []
abbrev f14r3 : Pc := .reg [
 Qd 0 9 (.call 29 []),
 Qd 1 3 (.mv (tm 9))] [0, 3] []
abbrev f14r4 : Pc := .reg [
 Qd 0 4 (.alloc 62 [(.t .np), .nl])] [0, 3, 4] []
abbrev f14r5 : Pc := .reg [
 Qd 0 10 (.mv (tm 0)),
 Qd 1 11 (.call 31 [(tm 10), (.c (.t (.s [10])))]),
 Qd 2 12 (.call 30 [(tm 11), (.c (.t (.s [10])))]),
 Qd 3 13 (.lenL (tm 12)),
 Qd 4 14 (.mv (kz 0))] [3, 4, 12, 13, 14] []
abbrev f14r6 : Pc := .reg [
 Qd 0 15 (.bin .lss (tm 14) (tm 13))] [3, 4, 12, 13, 14, 15] []
abbrev f14r7 : Pc := .reg [
 Qd 0 16 (.ixS 1 (tm 12) (tm 14)),
 Qd 1 17 (.load false 1 (tm 16)),
 Qd 2 6 (.mv (tm 17))] [3, 4, 6, 12, 13, 14] []
abbrev f14r8 : Pc := .reg [
 Qd 0 18 (.mv (tm 3)),
 Qd 1 19 (.mv (tm 6)),
 Qd 2 20 (.call 33 [(tm 18), (tm 19)]),
 Qd 3 21 (.bin .add (tm 20) (.c (.t (.s [10])))),
 Qd 4 22 (.call 32 [(tm 4), (tm 21)])] [3, 4, 12, 13, 14] []
abbrev f14r9 : Pc := .reg [
 Qd 0 23 (.bin .add (tm 14) (kz 1)),
 Qd 1 14 (.mv (tm 23))] [3, 4, 12, 13, 14] []
def f14l0 : Pc := (.seq f14r6 (.seq (.cond (tm 15) .skip (.exit 0)) (.seq (.block 1 (.seq f14r7 f14r8)) f14r9)))
theorem f14l0e (C : Cfg) (s : St) : evL C f14l0 s = evL C (.seq f14r6 (.seq (.cond (tm 15) .skip (.exit 0)) (.seq (.block 1 (.seq f14r7 f14r8)) f14r9))) s := rfl
abbrev f14r10 : Pc := .reg [
 Qd 0 24 (.call 34 [(tm 4)]),
 Qd 1 2 (.mv (tm 24))] [2] []
abbrev f14b : Pc := (.seq f14r0 (.seq (.seq f14r1 (.cond (tm 8) (.seq f14r2 .ret) .skip)) (.seq f14r3 (.seq f14r4 (.seq (.seq f14r5 (.block 0 (.loop f14l0))) (.seq f14r10 .ret))))))
abbrev f14 : Pfn := ⟨1, 25, [.tmp 2], f14b⟩
def f14K : Array (List Nat) := #[[0], [0, 8], [2], [0, 3], [0, 3, 4], [3, 4, 12, 13, 14], [3, 4, 12, 13, 14, 15], [3, 4, 6, 12, 13, 14], [3, 4, 12, 13, 14], [3, 4, 12, 13, 14], [2]]
def f14H : Array (List Nat) := #[[], [], [], [], [], [], [], [], [], [], []]
def f14A : Ann := ⟨fun r => f14K.getD r [], fun r => f14H.getD r [], fun r i => ([] : List (Nat × Nat)).contains (r, i)⟩
theorem f14C : compF Go.Proofs.Tryz.prog f14A 14 = some f14 := by kernel_rfl

abbrev f15r0 : Pc := .reg [
 Qd 0 2 (.box 41 2 (tm 0)),
 Qd 1 4 (.nilv 31 1)] [1, 2] [4]
abbrev f15r1 : Pc := .reg [
 Qd 0 13 (.fad 1 (tm 2)),
 Qd 1 14 (.load false 1 (tm 13)),
 Qd 2 15 (.lenL (tm 14)),
 Qd 3 16 (.mv (kz 0))] [1, 14, 15, 16] [2]
abbrev f15r2 : Pc := .reg [
 Qd 0 17 (.bin .lss (tm 16) (tm 15))] [1, 14, 15, 16, 17] []
abbrev f15r3 : Pc := .reg [
 Qd 0 18 (.ixS 3 (tm 14) (tm 16)),
 Qd 1 19 (.load true 3 (tm 18)),
 Qd 2 6 (.alloc 37 [.nl, .nl, (.t (.i .i64 0))]),
 Qn 3 (.store 3 (tm 6) (tm 19))] [1, 6, 14, 15, 16] []
abbrev f15r4 : Pc := .reg [
 Qd 0 20 (.load true 3 (tm 6)),
 Qd 1 21 (.mv (tm 1)),
 Qd 2 22 (.call 35 [(tm 20), (tm 21)]),
 Qd 3 7 (.mv (tm 22))] [1, 6, 7, 14, 15, 16] []
abbrev f15r5 : Pc := .reg [
 Qd 0 8 (.nilv 31 1)] [1, 6, 7, 8, 14, 15, 16] []
abbrev f15r6 : Pc := .reg [
 Qd 0 9 (.mv (kz 0))] [1, 6, 7, 8, 9, 14, 15, 16] []
abbrev f15r7 : Pc := .reg [
 Qd 0 23 (.mv (tm 9)),
 Qd 1 24 (.mv (tm 1)),
 Qd 2 25 (.lenL (tm 24)),
 Qd 3 26 (.bin .lss (tm 23) (tm 25))] [1, 6, 7, 8, 9, 14, 15, 16, 26] []
abbrev f15r9 : Pc := .reg [
 Qd 0 29 (.mv (tm 1)),
 Qd 1 30 (.mv (tm 9)),
 Qd 2 31 (.ixS 1 (tm 29) (tm 30)),
 Qd 3 32 (.load false 1 (tm 31)),
 Qd 4 10 (.mv (tm 32))] [1, 6, 7, 8, 9, 10, 14, 15, 16] []
abbrev f15r10 : Pc := .reg [
 Qd 0 33 (.mv (tm 7)),
 Qd 1 34 (.lenL (tm 33)),
 Qd 2 35 (.mv (kz 0))] [1, 6, 7, 8, 9, 10, 14, 15, 16, 33, 34, 35] []
abbrev f15r11 : Pc := .reg [
 Qd 0 36 (.bin .lss (tm 35) (tm 34))] [1, 6, 7, 8, 9, 10, 14, 15, 16, 33, 34, 35, 36] []
abbrev f15r12 : Pc := .reg [
 Qd 0 37 (.ixS 4 (tm 33) (tm 35)),
 Qd 1 38 (.load true 4 (tm 37)),
 Qd 2 12 (.alloc 73 [(.t (.i .i64 0)), (.t (.i .i64 0)), (.t (.i .i64 0)), (.t (.i .i64 0))]),
 Qn 3 (.store 4 (tm 12) (tm 38))] [1, 6, 7, 8, 9, 10, 12, 14, 15, 16, 33, 34, 35] []
abbrev f15r13 : Pc := .reg [
 Qd 0 39 (.fad 0 (tm 12)),
 Qd 1 40 (.load false 1 (tm 39)),
 Qd 2 41 (.mv (tm 9)),
 Qd 3 42 (.bin .eql (tm 40) (tm 41))] [1, 6, 7, 8, 9, 10, 12, 14, 15, 16, 33, 34, 35, 42] []
abbrev f15r14 : Pc := .reg [
 Qd 0 43 (.mv (tm 10)),
 Qd 1 44 (.fad 1 (tm 6)),
 Qd 2 45 (.load false 1 (tm 44)),
 Qd 3 46 (.fad 2 (tm 12)),
 Qd 4 47 (.load false 1 (tm 46)),
 Qd 5 48 (.ixS 2 (tm 45) (tm 47)),
 Qd 6 49 (.load true 2 (tm 48)),
 Qd 7 50 (.mv (tm 1)),
 Qd 8 51 (.mv (tm 9)),
 Qd 9 52 (.ixS 1 (tm 50) (tm 51)),
 Qd 10 53 (.load false 1 (tm 52)),
 Qd 11 54 (.callq 38 [(tm 49), (tm 53)]),
 Qd 12 55 (.fad 3 (tm 12)),
 Qd 13 56 (.load false 1 (tm 55)),
 Qd 14 57 (.callq 37 [(tm 54), (tm 56)]),
 Qd 15 58 (.callq 36 [(tm 43), (tm 57)]),
 Qd 16 10 (.mv (tm 58))] [1, 6, 7, 8, 9, 10, 14, 15, 16, 33, 34, 35] [12]
abbrev f15r15 : Pc := .reg [
 Qd 0 59 (.bin .add (tm 35) (kz 1)),
 Qd 1 35 (.mv (tm 59))] [1, 6, 7, 8, 9, 10, 14, 15, 16, 33, 34, 35] [12]
def f15l0 : Pc := (.seq f15r11 (.seq (.cond (tm 36) .skip (.exit 4)) (.seq (.block 5 (.seq f15r12 (.seq f15r13 (.cond (tm 42) f15r14 .skip)))) f15r15)))
theorem f15l0e (C : Cfg) (s : St) : evL C f15l0 s = evL C (.seq f15r11 (.seq (.cond (tm 36) .skip (.exit 4)) (.seq (.block 5 (.seq f15r12 (.seq f15r13 (.cond (tm 42) f15r14 .skip)))) f15r15))) s := rfl
abbrev f15r16 : Pc := .reg [
 Qd 0 60 (.mv (tm 8)),
 Qd 1 61 (.mv (tm 10)),
 Qd 2 62 (.bslT 1 [(tm 61)]),
 Qd 3 63 (.app 31 1 24 (tm 60) (tm 62)),
 Qd 4 8 (.mv (tm 63))] [1, 6, 7, 8, 9, 14, 15, 16] []
abbrev f15r8 : Pc := .reg [
 Qd 0 27 (.mv (tm 9)),
 Qd 1 28 (.bin .add (tm 27) (kz 1)),
 Qd 2 9 (.mv (tm 28))] [1, 6, 7, 8, 9, 14, 15, 16] []
def f15l1 : Pc := (.seq (.seq f15r7 (.cond (tm 26) .skip (.exit 2))) (.seq (.block 3 (.seq f15r9 (.seq (.seq f15r10 (.block 4 (.loop f15l0))) f15r16))) f15r8))
theorem f15l1e (C : Cfg) (s : St) : evL C f15l1 s = evL C (.seq (.seq f15r7 (.cond (tm 26) .skip (.exit 2))) (.seq (.block 3 (.seq f15r9 (.seq (.seq f15r10 (.block 4 (.loop f15l0))) f15r16))) f15r8)) s := rfl
abbrev f15r17 : Pc := .reg [
 Qd 0 64 (.mv (tm 8)),
 Qd 1 1 (.mv (tm 64))] [1, 14, 15, 16] [6]
abbrev f15r18 : Pc := .reg [
 Qd 0 65 (.bin .add (tm 16) (kz 1)),
 Qd 1 16 (.mv (tm 65))] [1, 14, 15, 16] []
def f15l2 : Pc := (.seq f15r2 (.seq (.cond (tm 17) .skip (.exit 0)) (.seq (.block 1 (.seq f15r3 (.seq f15r4 (.seq f15r5 (.seq (.seq f15r6 (.block 2 (.loop f15l1))) f15r17))))) f15r18)))
theorem f15l2e (C : Cfg) (s : St) : evL C f15l2 s = evL C (.seq f15r2 (.seq (.cond (tm 17) .skip (.exit 0)) (.seq (.block 1 (.seq f15r3 (.seq f15r4 (.seq f15r5 (.seq (.seq f15r6 (.block 2 (.loop f15l1))) f15r17))))) f15r18))) s := rfl
abbrev f15r19 : Pc := .reg [
 Qd 0 66 (.mv (tm 1)),
 Qd 1 4 (.mv (tm 66))] [4] []
abbrev f15b : Pc := (.seq f15r0 (.seq (.seq f15r1 (.block 0 (.loop f15l2))) (.seq f15r19 .ret)))
abbrev f15 : Pfn := ⟨2, 67, [.tmp 4], f15b⟩
def f15K : Array (List Nat) := #[[1, 2], [1, 14, 15, 16], [1, 14, 15, 16, 17], [1, 6, 14, 15, 16], [1, 6, 7, 14, 15, 16], [1, 6, 7, 8, 14, 15, 16], [1, 6, 7, 8, 9, 14, 15, 16], [1, 6, 7, 8, 9, 14, 15, 16, 26], [1, 6, 7, 8, 9, 14, 15, 16], [1, 6, 7, 8, 9, 10, 14, 15, 16], [1, 6, 7, 8, 9, 10, 14, 15, 16, 33, 34, 35], [1, 6, 7, 8, 9, 10, 14, 15, 16, 33, 34, 35, 36], [1, 6, 7, 8, 9, 10, 12, 14, 15, 16, 33, 34, 35], [1, 6, 7, 8, 9, 10, 12, 14, 15, 16, 33, 34, 35, 42], [1, 6, 7, 8, 9, 10, 14, 15, 16, 33, 34, 35], [1, 6, 7, 8, 9, 10, 14, 15, 16, 33, 34, 35], [1, 6, 7, 8, 9, 14, 15, 16], [1, 14, 15, 16], [1, 14, 15, 16], [4]]
def f15H : Array (List Nat) := #[[4], [2], [], [], [], [], [], [], [], [], [], [], [], [], [12], [12], [], [6], [], []]
def f15A : Ann := ⟨fun r => f15K.getD r [], fun r => f15H.getD r [], fun r i => ([] : List (Nat × Nat)).contains (r, i)⟩
theorem f15C : compF Go.Proofs.Tryz.prog f15A 15 = some f15 := by kernel_rfl

abbrev f16r0 : Pc := .reg [
 Qd 0 2 (.mv (.c (.t (.s []))))] [0] []
abbrev f16r1 : Pc := .reg [
 Qd 0 4 (.mv (tm 0)),
 Qd 1 5 (.bin .rem (tm 4) (kz 10)),
 Qd 2 6 (.bin .add (kz 48) (tm 5)),
 Qd 3 7 (.cvi .u8 (tm 6)),
 Qd 4 8 (.bslT 1 [(tm 7)]),
 Qd 5 9 (.cvbs (tm 8)),
 Qd 6 3 (.mv (tm 9))] [0, 3] []
abbrev f16r2 : Pc := .reg [
 Qd 0 10 (.mv (tm 0)),
 Qd 1 11 (.bin .gtr (tm 10) (kz 9))] [0, 3, 11] []
abbrev f16r3 : Pc := .reg [
 Qd 0 12 (.mv (tm 0)),
 Qd 1 13 (.bin .quo (tm 12) (kz 10)),
 Qd 2 0 (.mv (tm 13))] [0, 3] []
abbrev f16r4 : Pc := .reg [
 Qd 0 14 (.mv (tm 0)),
 Qd 1 15 (.bin .rem (tm 14) (kz 10)),
 Qd 2 16 (.bin .add (kz 48) (tm 15)),
 Qd 3 17 (.cvi .u8 (tm 16)),
 Qd 4 18 (.bslT 1 [(tm 17)]),
 Qd 5 19 (.cvbs (tm 18)),
 Qd 6 20 (.mv (tm 3)),
 Qd 7 21 (.bin .add (tm 19) (tm 20)),
 Qd 8 3 (.mv (tm 21))] [0, 3] []
def f16l0 : Pc := (.seq (.seq f16r2 (.cond (tm 11) .skip (.exit 0))) (.block 1 (.seq f16r3 f16r4)))
theorem f16l0e (C : Cfg) (s : St) : evL C f16l0 s = evL C (.seq (.seq f16r2 (.cond (tm 11) .skip (.exit 0))) (.block 1 (.seq f16r3 f16r4))) s := rfl
abbrev f16r5 : Pc := .reg [
 Qd 0 22 (.mv (tm 3)),
 Qd 1 2 (.mv (tm 22))] [2] []
abbrev f16b : Pc := (.seq f16r0 (.seq f16r1 (.seq (.block 0 (.loop f16l0)) (.seq f16r5 .ret))))
abbrev f16 : Pfn := ⟨1, 23, [.tmp 2], f16b⟩
def f16K : Array (List Nat) := #[[0], [0, 3], [0, 3, 11], [0, 3], [0, 3], [2]]
def f16H : Array (List Nat) := #[[], [], [], [], [], []]
def f16A : Ann := ⟨fun r => f16K.getD r [], fun r => f16H.getD r [], fun r i => ([] : List (Nat × Nat)).contains (r, i)⟩
theorem f16C : compF Go.Proofs.Tryz.prog f16A 16 = some f16 := by kernel_rfl

abbrev f17r0 : Pc := .reg [
 Qd 0 3 (.box 41 2 (tm 0)),
 Qd 1 4 (.box 50 2 (tm 1)),
 Qd 2 6 (.mv (.c (.t .np))),
 Qd 3 7 (.mv (kz 0))] [2, 3, 4] []
abbrev f17r1 : Pc := .reg [
 Qd 0 9 (.load true 2 (tm 3)),
 Qd 1 10 (.call 39 [(tm 9)]),
 Qd 2 11 (.un .not (tm 10)),
 Qd 3 12 (.mv (tm 11)),
 Gf 4 13 12 (.load true 2 (tm 3)),
 Gf 5 14 12 (.mv (tm 2)),
 Gf 6 15 12 (.call 40 [(tm 13), (tm 14)]),
 Gf 7 16 12 (.un .not (tm 15)),
 Qd 8 17 (.pick (tm 12) kT (tm 16)),
 Qd 9 18 (.mv (tm 17)),
 Gf 10 19 18 (.load true 2 (tm 4)),
 Gf 11 20 18 (.call 41 [(tm 19)]),
 Gf 12 21 18 (.un .not (tm 20)),
 Qd 13 22 (.pick (tm 18) kT (tm 21)),
 Qd 14 23 (.mv (tm 22)),
 Gf 15 24 23 (.fad 1 (tm 3)),
 Gf 16 25 23 (.load false 1 (tm 24)),
 Gf 17 26 23 (.mkfn 43 [(tm 4)]),
 Gf 18 27 23 (.call 42 [(tm 25), (tm 26)]),
 Qd 19 28 (.pick (tm 23) kT (tm 27))] [2, 3, 4, 28] []
abbrev f17r2 : Pc := .reg [
 Qd 0 6 (.mv (.c (.t .np))),
 Qd 1 7 (.mv (kz 1))] [6, 7] []
abbrev f17r3 : Pc := .reg [
 Qd 0 29 (.load true 2 (tm 3)),
 Qd 1 30 (.load true 2 (tm 4)),
 Qd 2 31 (.mv (tm 2)),
 Qd 3 32 (.callq 44 [(tm 31)]),
 Qd 4 33 (.build [(.t (.i .i64 0)), .nl, (.t (.i .i64 0)), .nl, .nl, .nl, .nl, .nl, .nl, .nl, .nl, (.t (.i .i64 0)), .nl, .nl, .nl] [(0, 2, (tm 29)), (2, 2, (tm 30)), (10, 1, (tm 32))]),
 Qd 5 34 (.box 88 15 (tm 33)),
 Qd 6 8 (.mv (tm 34))] [8] []
abbrev f17r4 : Pc := .reg [
 Qd 0 35 (.mv (tm 8)),
 Qd 1 36 (.call 45 [(tm 35)])] [8] []
abbrev f17r5 : Pc := .reg [
 Qd 0 37 (.mv (tm 8)),
 Qd 1 38 (.call 46 [(tm 37)])] [8] []
abbrev f17r6 : Pc := .reg [
 Qd 0 39 (.mv (tm 8)),
 Qd 1 6 (.mv (tm 39)),
 Qd 2 7 (.mv (kz 0))] [6, 7] []
abbrev f17b : Pc := (.seq f17r0 (.seq (.seq f17r1 (.cond (tm 28) (.seq f17r2 .ret) .skip)) (.seq f17r3 (.seq f17r4 (.seq f17r5 (.seq f17r6 .ret))))))
abbrev f17 : Pfn := ⟨3, 40, [.tmp 6, .tmp 7], f17b⟩
def f17K : Array (List Nat) := #[[2, 3, 4], [2, 3, 4, 28], [6, 7], [8], [8], [8], [6, 7]]
def f17H : Array (List Nat) := #[[], [], [], [], [], [], []]
def f17A : Ann := ⟨fun r => f17K.getD r [], fun r => f17H.getD r [], fun r i => ([] : List (Nat × Nat)).contains (r, i)⟩
theorem f17C : compF Go.Proofs.Tryz.prog f17A 17 = some f17 := by kernel_rfl

abbrev f20r0 : Pc := .reg [
 Qd 0 6 (.mv (tm 0)),
 Qd 1 7 (.nchk (tm 6)),
 Qd 2 8 (.fad 11 (tm 7)),
 Qd 3 9 (.load false 1 (tm 8)),
 Qd 4 10 (.mv (tm 0)),
 Qd 5 11 (.nchk (tm 10)),
 Qd 6 12 (.fad 0 (tm 11)),
 Qd 7 13 (.fad 1 (tm 12)),
 Qd 8 14 (.load false 1 (tm 13)),
 Qd 9 15 (.lenL (tm 14)),
 Qd 10 16 (.bin .geq (tm 9) (tm 15))] [0, 16] []
abbrev f20r1 : Pc := .reg [
 Qd 0 17 (.mv (tm 0)),
 Qd 1 18 (.nchk (tm 17)),
 Qd 2 19 (.fad 12 (tm 18)),
 Qd 3 20 (.load false 1 (tm 19)),
 Qd 4 21 (.lenL (tm 20)),
 Qd 5 22 (.mv (kz 0))] [0, 20, 21, 22] []
abbrev f20r2 : Pc := .reg [
 Qd 0 23 (.bin .lss (tm 22) (tm 21))] [0, 20, 21, 22, 23] []
abbrev f20r3 : Pc := .reg [
 Qd 0 24 (.mv (tm 22)),
 Qd 1 25 (.ixS 4 (tm 20) (tm 22)),
 Qd 2 26 (.load true 4 (tm 25)),
 Qd 3 3 (.alloc 91 [(.t (.i .i64 0)), (.t (.i .i64 0)), (.t (.i .i64 0)), (.t (.i .i64 0))]),
 Qd 4 2 (.mv (tm 24)),
 Qn 5 (.store 4 (tm 3) (tm 26))] [0, 2, 3, 20, 21, 22] []
abbrev f20r4 : Pc := .reg [
 Qd 0 27 (.mv (tm 0)),
 Qd 1 28 (.nchk (tm 27)),
 Qd 2 29 (.fad 14 (tm 28)),
 Qd 3 30 (.load false 1 (tm 29)),
 Qd 4 31 (.mv (tm 2)),
 Qd 5 32 (.ixS 1 (tm 30) (tm 31)),
 Qd 6 33 (.load false 1 (tm 32))] [0, 3, 20, 21, 22, 33] []
abbrev f20r5 : Pc := .reg [
 Qd 0 35 (.mv (tm 0)),
 Qd 1 36 (.nchk (tm 35)),
 Qd 2 37 (.fad 2 (tm 36)),
 Qd 3 38 (.load true 2 (tm 37)),
 Qd 4 39 (.fad 2 (tm 3)),
 Qd 5 40 (.load false 1 (tm 39)),
 Qd 6 41 (.fad 0 (tm 3)),
 Qd 7 42 (.load false 1 (tm 41)),
 Qd 8 43 (.fad 1 (tm 3)),
 Qd 9 44 (.load false 1 (tm 43)),
 Qd 10 45 (.bin .add (tm 42) (tm 44)),
 Qd 11 46 (.callq 48 [(tm 38), (tm 40), (tm 45)]),
 Qd 12 34 (.mv (tm 46)),
 Qd 13 47 (.ext 0 (tm 34)),
 Qd 14 48 (.ext 1 (tm 34)),
 Qd 15 4 (.mv (tm 47)),
 Qd 16 5 (.mv (tm 48))] [0, 3, 4, 20, 21, 22] []
abbrev f20r6 : Pc := .reg [
 Qd 0 49 (.mv (tm 0)),
 Qd 1 50 (.mv (tm 4)),
 Qd 2 51 (.mv (tm 0)),
 Qd 3 52 (.nchk (tm 51)),
 Qd 4 53 (.fad 11 (tm 52)),
 Qd 5 54 (.load false 1 (tm 53)),
 Qd 6 55 (.fad 0 (tm 3)),
 Qd 7 56 (.load false 1 (tm 55)),
 Qd 8 57 (.fad 1 (tm 3)),
 Qd 9 58 (.load false 1 (tm 57)),
 Qd 10 59 (.fad 2 (tm 3)),
 Qd 11 60 (.load false 1 (tm 59)),
 Qd 12 61 (.mv (tm 0)),
 Qd 13 62 (.nchk (tm 61)),
 Qd 14 63 (.fad 2 (tm 62)),
 Qd 15 64 (.fad 0 (tm 63)),
 Qd 16 65 (.load false 1 (tm 64)),
 Qd 17 66 (.mv (tm 0)),
 Qd 18 67 (.nchk (tm 66)),
 Qd 19 68 (.fad 10 (tm 67)),
 Qd 20 69 (.load false 1 (tm 68)),
 Qd 21 70 (.fad 0 (tm 3)),
 Qd 22 71 (.load false 1 (tm 70)),
 Qd 23 72 (.ixS 1 (tm 69) (tm 71)),
 Qd 24 73 (.load false 1 (tm 72)),
 Qd 25 74 (.build [(.t (.i .i64 0)), (.t (.i .i64 0)), (.t (.i .i64 0)), (.t (.i .i64 0)), (.t (.i .i64 0)), (.t (.i .i64 0)), (.t (.i .i64 0)), (.t (.i .i64 0)), (.t (.i .i64 0)), (.t (.i .i64 0)), .nl] [(0, 1, (kz 1)), (2, 1, (tm 50)), (4, 1, (kz 1)), (5, 1, (tm 54)), (6, 1, (tm 56)), (7, 1, (tm 58)), (8, 1, (tm 60)), (9, 1, (tm 65)), (10, 1, (tm 73))]),
 Qd 26 75 (.call 49 [(tm 49), (tm 74)])] [0, 20, 21, 22] []
abbrev f20r7 : Pc := .reg [
 Qd 0 76 (.bin .add (tm 22) (kz 1)),
 Qd 1 22 (.mv (tm 76))] [0, 20, 21, 22] []
def f20l0 : Pc := (.seq f20r2 (.seq (.cond (tm 23) .skip (.exit 0)) (.seq (.block 1 (.seq f20r3 (.seq (.seq f20r4 (.cond (tm 33) (.exit 1) .skip)) (.seq f20r5 f20r6)))) f20r7)))
theorem f20l0e (C : Cfg) (s : St) : evL C f20l0 s = evL C (.seq f20r2 (.seq (.cond (tm 23) .skip (.exit 0)) (.seq (.block 1 (.seq f20r3 (.seq (.seq f20r4 (.cond (tm 33) (.exit 1) .skip)) (.seq f20r5 f20r6)))) f20r7))) s := rfl
abbrev f20b : Pc := (.seq (.seq f20r0 (.cond (tm 16) .ret .skip)) (.seq f20r1 (.block 0 (.loop f20l0))))
abbrev f20 : Pfn := ⟨1, 77, [], f20b⟩
def f20K : Array (List Nat) := #[[0, 16], [0, 20, 21, 22], [0, 20, 21, 22, 23], [0, 2, 3, 20, 21, 22], [0, 3, 20, 21, 22, 33], [0, 3, 4, 20, 21, 22], [0, 20, 21, 22], [0, 20, 21, 22]]
def f20H : Array (List Nat) := #[[], [], [], [], [], [], [], []]
def f20A : Ann := ⟨fun r => f20K.getD r [], fun r => f20H.getD r [], fun r i => ([(6, 2026)] : List (Nat × Nat)).contains (r, i)⟩
theorem f20C : compF Go.Proofs.Tryz.prog f20A 20 = some f20 := by kernel_rfl

abbrev f21r0 : Pc := .reg [
 Qd 0 4 (.mv (kz 0))] [0, 1] []
abbrev f21r1 : Pc := .reg [
 Qd 0 14 (.mv (tm 0)),
 Qd 1 15 (.nchk (tm 14)),
 Qd 2 16 (.fad 9 (tm 15)),
 Qd 3 17 (.load false 1 (tm 16)),
 Qd 4 18 (.mv (tm 1)),
 Qd 5 19 (.call 50 [(tm 17), (tm 18)]),
 Qd 6 13 (.mv (tm 19)),
 Qd 7 20 (.ext 0 (tm 13)),
 Qd 8 21 (.ext 1 (tm 13)),
 Qd 9 22 (.ext 2 (tm 13)),
 Qd 10 5 (.mv (tm 20)),
 Qd 11 6 (.mv (tm 21)),
 Qd 12 7 (.mv (tm 22))] [0, 5, 6, 7] []
abbrev f21r2 : Pc := .reg [
 Qd 0 23 (.mv (tm 7)),
 Qd 1 24 (.un .not (tm 23))] [0, 5, 6, 24] []
abbrev f21r3 : Pc := .reg [
 Qd 0 4 (.mv (kz 4))] [4] []
abbrev f21r4 : Pc := .reg [
 Qd 0 25 (.mv (tm 0)),
 Qd 1 26 (.mv (tm 6)),
 Qd 2 27 (.nchk (tm 25)),
 Qd 3 28 (.fad 9 (tm 27)),
 Qn 4 (.store 1 (tm 28) (tm 26))] [0, 5] []
abbrev f21r5 : Pc := .reg [
 Qd 0 30 (.mv (tm 5)),
 Qd 1 31 (.call 51 [(tm 30)]),
 Qd 2 29 (.mv (tm 31)),
 Qd 3 32 (.ext 0 (tm 29)),
 Qd 4 33 (.ext 1 (tm 29)),
 Qd 5 8 (.alloc 95 [(.t (.i .i64 0)), (.t (.i .i64 0)), (.t (.i .i64 0)), (.t (.i .i64 0)), (.t (.i .i64 0)), (.t (.i .i64 0)), (.t (.i .i64 0)), (.t (.i .i64 0)), (.t (.i .i64 0)), (.t (.i .i64 0)), .nl]),
 Qn 6 (.store 11 (tm 8) (tm 32)),
 Qd 7 9 (.mv (tm 33))] [0, 8, 9] []
abbrev f21r6 : Pc := .reg [
 Qd 0 35 (.mv (tm 9)),
 Qd 1 36 (.bin .neq (tm 35) (kz 0)),
 Qd 2 34 (.mv (tm 36))] [0, 8, 34] []
abbrev f21r7 : Pc := .reg [
 Qd 0 38 (.fad 2 (tm 8)),
 Qd 1 39 (.load false 1 (tm 38)),
 Qd 2 40 (.bin .eql (tm 39) (kz 0)),
 Qd 3 37 (.mv (tm 40))] [0, 8, 37] []
abbrev f21r8 : Pc := .reg [
 Qd 0 41 (.mv (tm 0)),
 Qd 1 42 (.load true 11 (tm 8)),
 Qd 2 43 (.call 52 [(tm 41), (tm 42)])] [] []
abbrev f21r9 : Pc := .reg [
 Qd 0 45 (.fad 2 (tm 8)),
 Qd 1 46 (.load false 1 (tm 45)),
 Qd 2 47 (.bin .leq (tm 46) (kz 4)),
 Qd 3 44 (.mv (tm 47))] [0, 8, 44] []
abbrev f21r10 : Pc := .reg [
 Qd 0 49 (.mv (tm 0)),
 Qd 1 50 (.nchk (tm 49)),
 Qd 2 51 (.fad 0 (tm 50)),
 Qd 3 52 (.load true 2 (tm 51)),
 Qd 4 53 (.mv (tm 0)),
 Qd 5 54 (.nchk (tm 53)),
 Qd 6 55 (.fad 2 (tm 54)),
 Qd 7 56 (.load true 2 (tm 55)),
 Qd 8 57 (.fad 2 (tm 8)),
 Qd 9 58 (.load false 1 (tm 57)),
 Qd 10 59 (.mv (tm 0)),
 Qd 11 60 (.fad 2 (tm 8)),
 Qd 12 61 (.load false 1 (tm 60)),
 Qd 13 62 (.nchk (tm 59)),
 Qd 14 63 (.fad 4 (tm 62)),
 Qd 15 64 (.ixA 5 1 (tm 63) (tm 61)),
 Qd 16 65 (.load false 1 (tm 64)),
 Qd 17 66 (.load true 11 (tm 8)),
 Qd 18 67 (.callq 53 [(tm 52), (tm 56), (tm 58), (tm 65), (tm 66)]),
 Qd 19 48 (.mv (tm 67)),
 Qd 20 68 (.ext 0 (tm 48)),
 Qd 21 69 (.ext 1 (tm 48)),
 Qd 22 70 (.ext 2 (tm 48)),
 Qd 23 11 (.alloc 95 [(.t (.i .i64 0)), (.t (.i .i64 0)), (.t (.i .i64 0)), (.t (.i .i64 0)), (.t (.i .i64 0)), (.t (.i .i64 0)), (.t (.i .i64 0)), (.t (.i .i64 0)), (.t (.i .i64 0)), (.t (.i .i64 0)), .nl]),
 Qd 24 10 (.mv (tm 68)),
 Qn 25 (.store 11 (tm 11) (tm 69)),
 Qd 26 12 (.mv (tm 70))] [0, 8, 10, 11, 12] []
abbrev f21r11 : Pc := .reg [
 Qd 0 71 (.mv (tm 0)),
 Qd 1 72 (.fad 2 (tm 8)),
 Qd 2 73 (.load false 1 (tm 72)),
 Qd 3 74 (.mv (tm 10)),
 Qd 4 75 (.nchk (tm 71)),
 Qd 5 76 (.fad 4 (tm 75)),
 Qd 6 77 (.ixA 5 1 (tm 76) (tm 73)),
 Qn 7 (.store 1 (tm 77) (tm 74))] [0, 11, 12] []
abbrev f21r12 : Pc := .reg [
 Qd 0 78 (.mv (tm 12))] [0, 11, 78] []
abbrev f21r13 : Pc := .reg [
 Qd 0 79 (.mv (tm 0)),
 Qd 1 80 (.load true 11 (tm 11)),
 Qd 2 81 (.call 49 [(tm 79), (tm 80)])] [] []
abbrev f21r14 : Pc := .reg [
 Qd 0 4 (.mv (kz 0))] [4] []
abbrev f21b : Pc := (.seq f21r0 (.seq f21r1 (.seq (.seq f21r2 (.cond (tm 24) (.seq f21r3 .ret) .skip)) (.seq f21r4 (.seq f21r5 (.seq (.block 0 (.seq f21r6 (.cond (tm 34) .skip (.seq f21r7 (.cond (tm 37) f21r8 (.seq f21r9 (.cond (tm 44) (.seq f21r10 (.seq f21r11 (.seq f21r12 (.cond (tm 78) f21r13 .skip)))) .skip))))))) (.seq f21r14 .ret)))))))
abbrev f21 : Pfn := ⟨2, 82, [.tmp 4], f21b⟩
def f21K : Array (List Nat) := #[[0, 1], [0, 5, 6, 7], [0, 5, 6, 24], [4], [0, 5], [0, 8, 9], [0, 8, 34], [0, 8, 37], [], [0, 8, 44], [0, 8, 10, 11, 12], [0, 11, 12], [0, 11, 78], [], [4]]
def f21H : Array (List Nat) := #[[], [], [], [], [], [], [], [], [], [], [], [], [], [], []]
def f21A : Ann := ⟨fun r => f21K.getD r [], fun r => f21H.getD r [], fun r i => ([] : List (Nat × Nat)).contains (r, i)⟩
theorem f21C : compF Go.Proofs.Tryz.prog f21A 21 = some f21 := by kernel_rfl

abbrev f22r0 : Pc := .reg [
 Qd 0 4 (.mv (kz 0))] [0, 1] []
abbrev f22r1 : Pc := .reg [
 Qd 0 9 (.mv (tm 0)),
 Qd 1 10 (.nchk (tm 9)),
 Qd 2 11 (.fad 9 (tm 10)),
 Qd 3 12 (.load false 1 (tm 11)),
 Qd 4 13 (.mv (tm 1)),
 Qd 5 14 (.call 50 [(tm 12), (tm 13)]),
 Qd 6 8 (.mv (tm 14)),
 Qd 7 15 (.ext 0 (tm 8)),
 Qd 8 16 (.ext 1 (tm 8)),
 Qd 9 17 (.ext 2 (tm 8)),
 Qd 10 5 (.mv (tm 15)),
 Qd 11 6 (.mv (tm 16)),
 Qd 12 7 (.mv (tm 17))] [0, 6, 7] []
abbrev f22r2 : Pc := .reg [
 Qd 0 18 (.mv (tm 0)),
 Qd 1 19 (.mv (tm 6)),
 Qd 2 20 (.nchk (tm 18)),
 Qd 3 21 (.fad 9 (tm 20)),
 Qn 4 (.store 1 (tm 21) (tm 19))] [7] []
abbrev f22r3 : Pc := .reg [
 Qd 0 22 (.mv (tm 7)),
 Qd 1 23 (.un .not (tm 22))] [23] []
abbrev f22r4 : Pc := .reg [
 Qd 0 4 (.mv (kz 4))] [4] []
abbrev f22r5 : Pc := .reg [
 Qd 0 4 (.mv (kz 0))] [4] []
abbrev f22b : Pc := (.seq f22r0 (.seq f22r1 (.seq f22r2 (.seq (.seq f22r3 (.cond (tm 23) (.seq f22r4 .ret) .skip)) (.seq f22r5 .ret)))))
abbrev f22 : Pfn := ⟨2, 24, [.tmp 4], f22b⟩
def f22K : Array (List Nat) := #[[0, 1], [0, 6, 7], [7], [23], [4], [4]]
def f22H : Array (List Nat) := #[[], [], [], [], [], []]
def f22A : Ann := ⟨fun r => f22K.getD r [], fun r => f22H.getD r [], fun r i => ([] : List (Nat × Nat)).contains (r, i)⟩
theorem f22C : compF Go.Proofs.Tryz.prog f22A 22 = some f22 := by kernel_rfl

abbrev f23r0 : Pc := .reg [
 Qd 0 4 (.mv (kz 0))] [0, 1] []
abbrev f23r1 : Pc := .reg [
 Qd 0 5 (.mv (tm 1)),
 Qd 1 6 (.bin .lss (tm 5) (kz 0)),
 Qd 2 7 (.mv (tm 6)),
 Gf 3 8 7 (.mv (tm 1)),
 Gf 4 9 7 (.mv (tm 0)),
 Gf 5 10 7 (.nchk (tm 9)),
 Gf 6 11 7 (.fad 9 (tm 10)),
 Gf 7 12 7 (.load false 1 (tm 11)),
 Gf 8 13 7 (.lenL (tm 12)),
 Gf 9 14 7 (.bin .geq (tm 8) (tm 13)),
 Qd 10 15 (.pick (tm 7) kT (tm 14))] [0, 1, 15] []
abbrev f23r2 : Pc := .reg [
 Qd 0 4 (.mv (kz 4))] [4] []
abbrev f23r3 : Pc := .reg [
 Qd 0 16 (.mv (tm 0)),
 Qd 1 17 (.mv (tm 0)),
 Qd 2 18 (.nchk (tm 17)),
 Qd 3 19 (.fad 9 (tm 18)),
 Qd 4 20 (.load false 1 (tm 19)),
 Qd 5 21 (.mv (tm 1)),
 Qd 6 22 (.call 54 [(tm 20), (tm 21)]),
 Qd 7 23 (.nchk (tm 16)),
 Qd 8 24 (.fad 9 (tm 23)),
 Qn 9 (.store 1 (tm 24) (tm 22))] [] []
abbrev f23r4 : Pc := .reg [
 Qd 0 4 (.mv (kz 0))] [4] []
abbrev f23b : Pc := (.seq f23r0 (.seq (.seq f23r1 (.cond (tm 15) (.seq f23r2 .ret) .skip)) (.seq f23r3 (.seq f23r4 .ret))))
abbrev f23 : Pfn := ⟨2, 25, [.tmp 4], f23b⟩
def f23K : Array (List Nat) := #[[0, 1], [0, 1, 15], [4], [], [4]]
def f23H : Array (List Nat) := #[[], [], [], [], []]
def f23A : Ann := ⟨fun r => f23K.getD r [], fun r => f23H.getD r [], fun r i => ([] : List (Nat × Nat)).contains (r, i)⟩
theorem f23C : compF Go.Proofs.Tryz.prog f23A 23 = some f23 := by kernel_rfl

abbrev f24r0 : Pc := .reg [
 Qd 0 6 (.mv (kz 0))] [0, 1, 2] []
abbrev f24r1 : Pc := .reg [
 Qd 0 10 (.mv (tm 0)),
 Qd 1 11 (.nchk (tm 10)),
 Qd 2 12 (.fad 2 (tm 11)),
 Qd 3 13 (.load true 2 (tm 12)),
 Qd 4 14 (.mv (tm 1)),
 Qd 5 15 (.mv (tm 2)),
 Qd 6 16 (.call 55 [(tm 13), (tm 14), (tm 15)]),
 Qd 7 9 (.mv (tm 16)),
 Qd 8 17 (.ext 0 (tm 9)),
 Qd 9 18 (.ext 1 (tm 9)),
 Qd 10 7 (.alloc 50 [(.t (.i .i64 0)), .nl]),
 Qn 11 (.store 2 (tm 7) (tm 17)),
 Qd 12 8 (.mv (tm 18))] [0, 7, 8] []
abbrev f24r2 : Pc := .reg [
 Qd 0 19 (.mv (tm 0)),
 Qd 1 20 (.load true 2 (tm 7)),
 Qd 2 21 (.nchk (tm 19)),
 Qd 3 22 (.fad 2 (tm 21)),
 Qn 4 (.store 2 (tm 22) (tm 20))] [8] []
abbrev f24r3 : Pc := .reg [
 Qd 0 23 (.mv (tm 8)),
 Qd 1 6 (.mv (tm 23))] [6] []
abbrev f24b : Pc := (.seq f24r0 (.seq f24r1 (.seq f24r2 (.seq f24r3 .ret))))
abbrev f24 : Pfn := ⟨3, 24, [.tmp 6], f24b⟩
def f24K : Array (List Nat) := #[[0, 1, 2], [0, 7, 8], [8], [6]]
def f24H : Array (List Nat) := #[[], [], [], []]
def f24A : Ann := ⟨fun r => f24K.getD r [], fun r => f24H.getD r [], fun r i => ([] : List (Nat × Nat)).contains (r, i)⟩
theorem f24C : compF Go.Proofs.Tryz.prog f24A 24 = some f24 := by kernel_rfl

abbrev f25r0 : Pc := .reg [
 Qd 0 6 (.mv (kz 0))] [0, 1, 2] []
abbrev f25r1 : Pc := .reg [
 Qd 0 10 (.mv (tm 0)),
 Qd 1 11 (.nchk (tm 10)),
 Qd 2 12 (.fad 2 (tm 11)),
 Qd 3 13 (.load true 2 (tm 12)),
 Qd 4 14 (.mv (tm 1)),
 Qd 5 15 (.mv (tm 2)),
 Qd 6 16 (.call 56 [(tm 13), (tm 14), (tm 15)]),
 Qd 7 9 (.mv (tm 16)),
 Qd 8 17 (.ext 0 (tm 9)),
 Qd 9 18 (.ext 1 (tm 9)),
 Qd 10 7 (.alloc 50 [(.t (.i .i64 0)), .nl]),
 Qn 11 (.store 2 (tm 7) (tm 17)),
 Qd 12 8 (.mv (tm 18))] [0, 7, 8] []
abbrev f25r2 : Pc := .reg [
 Qd 0 19 (.mv (tm 0)),
 Qd 1 20 (.load true 2 (tm 7)),
 Qd 2 21 (.nchk (tm 19)),
 Qd 3 22 (.fad 2 (tm 21)),
 Qn 4 (.store 2 (tm 22) (tm 20))] [8] []
abbrev f25r3 : Pc := .reg [
 Qd 0 23 (.mv (tm 8)),
 Qd 1 6 (.mv (tm 23))] [6] []
abbrev f25b : Pc := (.seq f25r0 (.seq f25r1 (.seq f25r2 (.seq f25r3 .ret))))
abbrev f25 : Pfn := ⟨3, 24, [.tmp 6], f25b⟩
def f25K : Array (List Nat) := #[[0, 1, 2], [0, 7, 8], [8], [6]]
def f25H : Array (List Nat) := #[[], [], [], []]
def f25A : Ann := ⟨fun r => f25K.getD r [], fun r => f25H.getD r [], fun r i => ([] : List (Nat × Nat)).contains (r, i)⟩
theorem f25C : compF Go.Proofs.Tryz.prog f25A 25 = some f25 := by kernel_rfl

abbrev f26r0 : Pc := .reg [
 Qd 0 2 (.nilv 9 1)] [0] []
abbrev f26r1 : Pc := .reg [
 Qd 0 3 (.mv (tm 0)),
 Qd 1 4 (.nchk (tm 3)),
 Qd 2 5 (.fad 9 (tm 4)),
 Qd 3 6 (.load false 1 (tm 5)),
 Qd 4 7 (.call 57 [(tm 6)]),
 Qd 5 2 (.mv (tm 7))] [2] []
abbrev f26b : Pc := (.seq f26r0 (.seq f26r1 .ret))
abbrev f26 : Pfn := ⟨1, 8, [.tmp 2], f26b⟩
def f26K : Array (List Nat) := #[[0], [2]]
def f26H : Array (List Nat) := #[[], []]
def f26A : Ann := ⟨fun r => f26K.getD r [], fun r => f26H.getD r [], fun r i => ([] : List (Nat × Nat)).contains (r, i)⟩
theorem f26C : compF Go.Proofs.Tryz.prog f26A 26 = some f26 := by kernel_rfl

abbrev f27r0 : Pc := .reg [
 Qd 0 2 (.mv (kz 0))] [0] []
abbrev f27r1 : Pc := .reg [
 Qd 0 3 (.mv (kz 0))] [0, 3] []
abbrev f27r2 : Pc := .reg [
 Qd 0 6 (.mv (tm 0)),
 Qd 1 7 (.nchk (tm 6)),
 Qd 2 8 (.fad 4 (tm 7)),
 Qd 3 9 (.load true 5 (tm 8)),
 Qd 4 10 (.mv (kz 0))] [3, 9, 10] []
abbrev f27r3 : Pc := .reg [
 Qd 0 11 (.bin .lss (tm 10) (kz 5))] [3, 9, 10, 11] []
abbrev f27r4 : Pc := .reg [
 Qd 0 12 (.ixV false 5 1 (tm 9) (tm 10)),
 Qd 1 5 (.mv (tm 12))] [3, 5, 9, 10] []
abbrev f27r5 : Pc := .reg [
 Qd 0 13 (.mv (tm 3)),
 Qd 1 14 (.mv (tm 5)),
 Qd 2 15 (.lenL (tm 14)),
 Qd 3 16 (.bin .add (tm 13) (tm 15)),
 Qd 4 3 (.mv (tm 16))] [3, 9, 10] []
abbrev f27r6 : Pc := .reg [
 Qd 0 17 (.bin .add (tm 10) (kz 1)),
 Qd 1 10 (.mv (tm 17))] [3, 9, 10] []
def f27l0 : Pc := (.seq f27r3 (.seq (.cond (tm 11) .skip (.exit 0)) (.seq (.block 1 (.seq f27r4 f27r5)) f27r6)))
theorem f27l0e (C : Cfg) (s : St) : evL C f27l0 s = evL C (.seq f27r3 (.seq (.cond (tm 11) .skip (.exit 0)) (.seq (.block 1 (.seq f27r4 f27r5)) f27r6))) s := rfl
abbrev f27r7 : Pc := .reg [
 Qd 0 18 (.mv (tm 3)),
 Qd 1 2 (.mv (tm 18))] [2] []
abbrev f27b : Pc := (.seq f27r0 (.seq f27r1 (.seq (.seq f27r2 (.block 0 (.loop f27l0))) (.seq f27r7 .ret))))
abbrev f27 : Pfn := ⟨1, 19, [.tmp 2], f27b⟩
def f27K : Array (List Nat) := #[[0], [0, 3], [3, 9, 10], [3, 9, 10, 11], [3, 5, 9, 10], [3, 9, 10], [3, 9, 10], [2]]
def f27H : Array (List Nat) := #[[], [], [], [], [], [], [], []]
def f27A : Ann := ⟨fun r => f27K.getD r [], fun r => f27H.getD r [], fun r i => ([] : List (Nat × Nat)).contains (r, i)⟩
theorem f27C : compF Go.Proofs.Tryz.prog f27A 27 = some f27 := by kernel_rfl

abbrev f28r0 : Pc := .reg [
 Qd 0 2 (.nilv 31 1),
 Qd 1 3 (.mv kF)] [0] []
abbrev f28r1 : Pc := .reg [
 Qd 0 4 (.mv (tm 0)),
 Qd 1 5 (.nchk (tm 4)),
 Qd 2 6 (.fad 11 (tm 5)),
 Qd 3 7 (.load false 1 (tm 6)),
 Qd 4 8 (.mv (tm 0)),
 Qd 5 9 (.nchk (tm 8)),
 Qd 6 10 (.fad 0 (tm 9)),
 Qd 7 11 (.fad 1 (tm 10)),
 Qd 8 12 (.load false 1 (tm 11)),
 Qd 9 13 (.lenL (tm 12)),
 Qd 10 14 (.bin .lss (tm 7) (tm 13))] [0, 14] []
abbrev f28r2 : Pc := .reg [
 Qd 0 2 (.nilv 31 1),
 Qd 1 3 (.mv kF)] [2, 3] []
abbrev f28r3 : Pc := .reg [
 Qd 0 15 (.mv (tm 0)),
 Qd 1 16 (.nchk (tm 15)),
 Qd 2 17 (.fad 10 (tm 16)),
 Qd 3 18 (.load false 1 (tm 17)),
 Qd 4 19 (.call 44 [(tm 18)]),
 Qd 5 2 (.mv (tm 19)),
 Qd 6 3 (.mv kT)] [2, 3] []
abbrev f28b : Pc := (.seq f28r0 (.seq (.seq f28r1 (.cond (tm 14) (.seq f28r2 .ret) .skip)) (.seq f28r3 .ret)))
abbrev f28 : Pfn := ⟨1, 20, [.tmp 2, .tmp 3], f28b⟩
def f28K : Array (List Nat) := #[[0], [0, 14], [2, 3], [2, 3]]
def f28H : Array (List Nat) := #[[], [], [], []]
def f28A : Ann := ⟨fun r => f28K.getD r [], fun r => f28H.getD r [], fun r i => ([] : List (Nat × Nat)).contains (r, i)⟩
theorem f28C : compF Go.Proofs.Tryz.prog f28A 28 = some f28 := by kernel_rfl

abbrev f29r0 : Pc := .reg [
 Qd 0 0 (.mv (.c (.t .np)))] [] []
abbrev f29r1 : Pc := .reg [
 Qd 0 6 (.bslT 1 [(kz 65536)]),
 Qd 1 7 (.bslT 1 [(tm 6)]),
 Qd 2 8 (.bslT 1 [(kz 131072)]),
 Qd 3 9 (.bslT 1 [(tm 8)]),
 Qd 4 1 (.mv (tm 7)),
 Qd 5 2 (.mv (tm 9))] [1, 2] []
abbrev f29r2 : Pc := .reg [
 Qd 0 10 (.bslT 1 [(kz 65536)]),
 Qd 1 11 (.bslT 1 [(kz 0)]),
 Qd 2 12 (.bslT 1 [(tm 10), (tm 11)]),
 Qd 3 13 (.mv (tm 1)),
 Qd 4 14 (.mv (tm 1)),
 Qd 5 15 (.build [.nl, .nl] [(0, 1, (tm 13)), (1, 1, (tm 14))]),
 Qd 6 16 (.mv (tm 1)),
 Qd 7 17 (.mv (tm 2)),
 Qd 8 18 (.build [.nl, .nl] [(0, 1, (tm 16)), (1, 1, (tm 17))]),
 Qd 9 19 (.bslT 2 [(tm 15), (tm 18)]),
 Qd 10 20 (.build [.nl, .nl, (.t (.i .i64 0))] [(0, 1, (tm 12)), (1, 1, (tm 19)), (2, 1, (kz 2))]),
 Qd 11 3 (.alloc 37 [.nl, .nl, (.t (.i .i64 0))]),
 Qn 12 (.store 3 (tm 3) (tm 20))] [3] []
abbrev f29r3 : Pc := .reg [
 Qd 0 22 (.load true 3 (tm 3)),
 Qd 1 23 (.bslT 3 [(tm 22)]),
 Qd 2 24 (.build [(.t (.i .i64 0)), .nl] [(0, 1, (kz 1)), (1, 1, (tm 23))]),
 Qd 3 25 (.bslT 1 [(kz 1), (kz 2)]),
 Qd 4 26 (.bslT 1 [(kz 1), (kz 2)]),
 Qd 5 27 (.bslT 1 [(tm 25), (tm 26)]),
 Qd 6 28 (.build [(.t (.i .i64 0)), .nl] [(1, 1, (tm 27))]),
 Qd 7 29 (.bslT 1 [(kz 100)]),
 Qd 8 30 (.bslT 1 [(kz 50)]),
 Qd 9 31 (.bslT 1 [(kz 7)]),
 Qd 10 32 (.bslT 1 [(tm 29), (tm 30), (tm 31)]),
 Qd 11 33 (.call 17 [(tm 24), (tm 28), (tm 32)]),
 Qd 12 21 (.mv (tm 33)),
 Qd 13 34 (.ext 0 (tm 21)),
 Qd 14 35 (.ext 1 (tm 21)),
 Qd 15 4 (.mv (tm 34)),
 Qd 16 5 (.mv (tm 35))] [4] []
abbrev f29r4 : Pc := .reg [
 Qd 0 36 (.mv (tm 4)),
 Qd 1 0 (.mv (tm 36))] [0] []
abbrev f29b : Pc := (.seq f29r0 (.seq f29r1 (.seq f29r2 (.seq f29r3 (.seq f29r4 .ret)))))
abbrev f29 : Pfn := ⟨0, 37, [.tmp 0], f29b⟩
def f29K : Array (List Nat) := #[[], [1, 2], [3], [4], [0]]
def f29H : Array (List Nat) := #[[], [], [], [], []]
def f29A : Ann := ⟨fun r => f29K.getD r [], fun r => f29H.getD r [], fun r i => ([(9999, 9999)] : List (Nat × Nat)).contains (r, i)⟩
theorem f29C : compF Go.Proofs.Tryz.prog f29A 29 = some f29 := by kernel_rfl

abbrev f32r0 : Pc := .reg [
 Qd 0 4 (.mv (kz 0)),
 Qd 1 5 (.mv (.c (.t .ni)))] [0, 1] []
abbrev f32r1 : Pc := .reg [
 Qd 0 6 (.mv (tm 0)),
 Qd 1 7 (.call 60 [(tm 6)])] [0, 1] []
abbrev f32r2 : Pc := .reg [
 Qd 0 8 (.mv (tm 0)),
 Qd 1 9 (.mv (tm 0)),
 Qd 2 10 (.nchk (tm 9)),
 Qd 3 11 (.fad 1 (tm 10)),
 Qd 4 12 (.load false 1 (tm 11)),
 Qd 5 13 (.mv (tm 1)),
 Qd 6 14 (.appS 5 (tm 12) (tm 13)),
 Qd 7 15 (.nchk (tm 8)),
 Qd 8 16 (.fad 1 (tm 15)),
 Qn 9 (.store 1 (tm 16) (tm 14))] [1] []
abbrev f32r3 : Pc := .reg [
 Qd 0 17 (.mv (tm 1)),
 Qd 1 18 (.lenS (tm 17)),
 Qd 2 4 (.mv (tm 18)),
 Qd 3 5 (.mv (.c (.t .ni)))] [4, 5] []
abbrev f32b : Pc := (.seq f32r0 (.seq f32r1 (.seq f32r2 (.seq f32r3 .ret))))
abbrev f32 : Pfn := ⟨2, 19, [.tmp 4, .tmp 5], f32b⟩
def f32K : Array (List Nat) := #[[0, 1], [0, 1], [1], [4, 5]]
def f32H : Array (List Nat) := #[[], [], [], []]
def f32A : Ann := ⟨fun r => f32K.getD r [], fun r => f32H.getD r [], fun r i => ([] : List (Nat × Nat)).contains (r, i)⟩
theorem f32C : compF Go.Proofs.Tryz.prog f32A 32 = some f32 := by kernel_rfl

abbrev f33r0 : Pc := .reg [
 Qd 0 4 (.mv (.c (.t (.s []))))] [0, 1] []
abbrev f33r1 : Pc := .reg [
 Qd 0 8 (.mv (tm 1)),
 Qd 1 9 (.call 30 [(tm 8), (.c (.t (.s [32])))]),
 Qd 2 5 (.mv (tm 9))] [0, 5] []
abbrev f33r2 : Pc := .reg [
 Qd 0 11 (.mv (tm 5)),
 Qd 1 12 (.sls 1 (tm 11) (some (kz 1)) none),
 Qd 2 13 (.call 61 [(tm 12)]),
 Qd 3 10 (.mv (tm 13)),
 Qd 4 14 (.ext 0 (tm 10)),
 Qd 5 15 (.ext 1 (tm 10)),
 Qd 6 6 (.mv (tm 14)),
 Qd 7 7 (.mv (tm 15))] [0, 5, 6, 7] []
abbrev f33r3 : Pc := .reg [
 Qd 0 16 (.mv (tm 7)),
 Qd 1 17 (.un .not (tm 16))] [0, 5, 6, 17] []
abbrev f33r4 : Pc := .reg [
 Qd 0 18 (.call 62 [(kz 2), (.c .nl)]),
 Qd 1 4 (.mv (tm 18))] [4] []
abbrev f33r5 : Pc := .reg [
 Qd 0 19 (.mv (tm 5)),
 Qd 1 20 (.ixS 1 (tm 19) (kz 0)),
 Qd 2 21 (.load false 1 (tm 20)),
 Qd 3 22 (.mv (tm 6)),
 Qd 4 23 (.lenL (tm 22)),
 Qd 5 24 (.callq 63 [(tm 23)]),
 Qd 6 25 (.bin .add (tm 21) (tm 24))] [0, 6, 25] []
abbrev f33r6 : Pc := .reg [
 Qd 0 27 (.bin .eql (tm 25) (.c (.t (.s [97, 115, 107, 48])))),
 Qd 1 26 (.mv (tm 27))] [0, 6, 25, 26] []
abbrev f33r7 : Pc := .reg [
 Qd 0 28 (.mv (tm 0)),
 Qd 1 29 (.call 20 [(tm 28)])] [] []
abbrev f33r8 : Pc := .reg [
 Qd 0 30 (.call 62 [(kz 0), (.c .nl)]),
 Qd 1 4 (.mv (tm 30))] [4] []
abbrev f33r9 : Pc := .reg [
 Qd 0 32 (.bin .eql (tm 25) (.c (.t (.s [100, 101, 108, 105, 118, 101, 114, 49])))),
 Qd 1 31 (.mv (tm 32))] [0, 6, 25, 31] []
abbrev f33r10 : Pc := .reg [
 Qd 0 33 (.mv (tm 0)),
 Qd 1 34 (.mv (tm 6)),
 Qd 2 35 (.ixS 1 (tm 34) (kz 0)),
 Qd 3 36 (.load false 1 (tm 35)),
 Qd 4 37 (.call 21 [(tm 33), (tm 36)]),
 Qd 5 38 (.call 62 [(tm 37), (.c .nl)]),
 Qd 6 4 (.mv (tm 38))] [4] []
abbrev f33r11 : Pc := .reg [
 Qd 0 40 (.bin .eql (tm 25) (.c (.t (.s [100, 114, 111, 112, 49])))),
 Qd 1 39 (.mv (tm 40))] [0, 6, 25, 39] []
abbrev f33r12 : Pc := .reg [
 Qd 0 41 (.mv (tm 0)),
 Qd 1 42 (.mv (tm 6)),
 Qd 2 43 (.ixS 1 (tm 42) (kz 0)),
 Qd 3 44 (.load false 1 (tm 43)),
 Qd 4 45 (.call 22 [(tm 41), (tm 44)]),
 Qd 5 46 (.call 62 [(tm 45), (.c .nl)]),
 Qd 6 4 (.mv (tm 46))] [4] []
abbrev f33r13 : Pc := .reg [
 Qd 0 48 (.bin .eql (tm 25) (.c (.t (.s [116, 119, 105, 99, 101, 49])))),
 Qd 1 47 (.mv (tm 48))] [0, 6, 25, 47] []
abbrev f33r14 : Pc := .reg [
 Qd 0 49 (.mv (tm 0)),
 Qd 1 50 (.mv (tm 6)),
 Qd 2 51 (.ixS 1 (tm 50) (kz 0)),
 Qd 3 52 (.load false 1 (tm 51)),
 Qd 4 53 (.call 23 [(tm 49), (tm 52)]),
 Qd 5 54 (.call 62 [(tm 53), (.c .nl)]),
 Qd 6 4 (.mv (tm 54))] [4] []
abbrev f33r15 : Pc := .reg [
 Qd 0 56 (.bin .eql (tm 25) (.c (.t (.s [97, 100, 100, 50])))),
 Qd 1 55 (.mv (tm 56))] [0, 6, 25, 55] []
abbrev f33r16 : Pc := .reg [
 Qd 0 57 (.mv (tm 0)),
 Qd 1 58 (.mv (tm 6)),
 Qd 2 59 (.ixS 1 (tm 58) (kz 0)),
 Qd 3 60 (.load false 1 (tm 59)),
 Qd 4 61 (.mv (tm 6)),
 Qd 5 62 (.ixS 1 (tm 61) (kz 1)),
 Qd 6 63 (.load false 1 (tm 62)),
 Qd 7 64 (.call 24 [(tm 57), (tm 60), (tm 63)]),
 Qd 8 65 (.call 62 [(tm 64), (.c .nl)]),
 Qd 9 4 (.mv (tm 65))] [4] []
abbrev f33r17 : Pc := .reg [
 Qd 0 67 (.bin .eql (tm 25) (.c (.t (.s [114, 101, 116, 105, 114, 101, 50])))),
 Qd 1 66 (.mv (tm 67))] [0, 6, 25, 66] []
abbrev f33r18 : Pc := .reg [
 Qd 0 68 (.mv (tm 0)),
 Qd 1 69 (.mv (tm 6)),
 Qd 2 70 (.ixS 1 (tm 69) (kz 0)),
 Qd 3 71 (.load false 1 (tm 70)),
 Qd 4 72 (.mv (tm 6)),
 Qd 5 73 (.ixS 1 (tm 72) (kz 1)),
 Qd 6 74 (.load false 1 (tm 73)),
 Qd 7 75 (.call 25 [(tm 68), (tm 71), (tm 74)]),
 Qd 8 76 (.call 62 [(tm 75), (.c .nl)]),
 Qd 9 4 (.mv (tm 76))] [4] []
abbrev f33r19 : Pc := .reg [
 Qd 0 78 (.bin .eql (tm 25) (.c (.t (.s [98, 97, 103, 48])))),
 Qd 1 77 (.mv (tm 78))] [0, 25, 77] []
abbrev f33r20 : Pc := .reg [
 Qd 0 79 (.mv (tm 0)),
 Qd 1 80 (.call 26 [(tm 79)]),
 Qd 2 81 (.lenL (tm 80)),
 Qd 3 82 (.mv (tm 0)),
 Qd 4 83 (.call 27 [(tm 82)]),
 Qd 5 84 (.bslO 3 1 [(tm 81), (tm 83)]),
 Qd 6 85 (.call 62 [(kz 0), (tm 84)]),
 Qd 7 4 (.mv (tm 85))] [4] []
abbrev f33r21 : Pc := .reg [
 Qd 0 87 (.bin .eql (tm 25) (.c (.t (.s [100, 111, 110, 101, 48])))),
 Qd 1 86 (.mv (tm 87))] [0, 86] []
abbrev f33r22 : Pc := .reg [
 Qd 0 88 (.mv (tm 0)),
 Qd 1 89 (.call 64 [(tm 88)]),
 Qd 2 4 (.mv (tm 89))] [4] []
abbrev f33r23 : Pc := .reg [
 Qd 0 90 (.call 62 [(kz 2), (.c .nl)]),
 Qd 1 4 (.mv (tm 90))] [4] []
abbrev f33b : Pc := (.seq f33r0 (.seq f33r1 (.seq f33r2 (.seq (.seq f33r3 (.cond (tm 17) (.seq f33r4 .ret) .skip)) (.seq (.seq f33r5 (.block 0 (.seq f33r6 (.cond (tm 26) (.seq f33r7 (.seq f33r8 .ret)) (.seq f33r9 (.cond (tm 31) (.seq f33r10 .ret) (.seq f33r11 (.cond (tm 39) (.seq f33r12 .ret) (.seq f33r13 (.cond (tm 47) (.seq f33r14 .ret) (.seq f33r15 (.cond (tm 55) (.seq f33r16 .ret) (.seq f33r17 (.cond (tm 66) (.seq f33r18 .ret) (.seq f33r19 (.cond (tm 77) (.seq f33r20 .ret) (.seq f33r21 (.cond (tm 86) (.seq f33r22 .ret) .skip)))))))))))))))))) (.seq f33r23 .ret))))))
abbrev f33 : Pfn := ⟨2, 91, [.tmp 4], f33b⟩
def f33K : Array (List Nat) := #[[0, 1], [0, 5], [0, 5, 6, 7], [0, 5, 6, 17], [4], [0, 6, 25], [0, 6, 25, 26], [], [4], [0, 6, 25, 31], [4], [0, 6, 25, 39], [4], [0, 6, 25, 47], [4], [0, 6, 25, 55], [4], [0, 6, 25, 66], [4], [0, 25, 77], [4], [0, 86], [4], [4]]
def f33H : Array (List Nat) := #[[], [], [], [], [], [], [], [], [], [], [], [], [], [], [], [], [], [], [], [], [], [], [], []]
def f33A : Ann := ⟨fun r => f33K.getD r [], fun r => f33H.getD r [], fun r i => ([(16, 2007), (16, 2008), (18, 2007), (18, 2008), (20, 5)] : List (Nat × Nat)).contains (r, i)⟩
theorem f33C : compF Go.Proofs.Tryz.prog f33A 33 = some f33 := by kernel_rfl

abbrev f35r0 : Pc := .reg [
 Qd 0 2 (.box 37 3 (tm 0)),
 Qd 1 4 (.nilv 73 4)] [1, 2] [4, 10, 69, 87]
abbrev f35r1 : Pc := .reg [
 Qd 0 5 (.nilv 115 2)] [1, 2, 5] []
abbrev f35r2 : Pc := .reg [
 Qd 0 14 (.mv (tm 1)),
 Qd 1 15 (.lenL (tm 14)),
 Qd 2 16 (.mv (kz 0))] [1, 2, 5, 14, 15, 16] []
abbrev f35r3 : Pc := .reg [
 Qd 0 17 (.bin .lss (tm 16) (tm 15))] [1, 2, 5, 14, 15, 16, 17] []
abbrev f35r4 : Pc := .reg [
 Qd 0 18 (.ixS 1 (tm 14) (tm 16)),
 Qd 1 19 (.load false 1 (tm 18)),
 Qd 2 7 (.mv (tm 19))] [1, 2, 5, 7, 14, 15, 16] []
abbrev f35r5 : Pc := .reg [
 Qd 0 21 (.fad 0 (tm 2)),
 Qd 1 22 (.load false 1 (tm 21)),
 Qd 2 23 (.mv (tm 7)),
 Qd 3 24 (.call 65 [(tm 22), (tm 23)]),
 Qd 4 20 (.mv (tm 24)),
 Qd 5 25 (.ext 0 (tm 20)),
 Qd 6 26 (.ext 1 (tm 20)),
 Qd 7 8 (.alloc 112 [(.t (.i .i64 0)), (.t (.i .i64 0)), (.t (.i .i64 0)), (.t (.i .i64 0))]),
 Qn 8 (.store 4 (tm 8) (tm 25)),
 Qd 9 9 (.mv (tm 26))] [1, 2, 5, 8, 14, 15, 16] []
abbrev f35r6 : Pc := .reg [
 Qd 0 27 (.mv (tm 5)),
 Qd 1 28 (.fad 0 (tm 8)),
 Qd 2 29 (.load false 1 (tm 28)),
 Qd 3 30 (.fad 1 (tm 8)),
 Qd 4 31 (.load false 1 (tm 30)),
 Qd 5 32 (.build [(.t (.i .i64 0)), (.t (.i .i64 0))] [(0, 1, (tm 29)), (1, 1, (tm 31))]),
 Qd 6 33 (.bslT 2 [(tm 32)]),
 Qd 7 34 (.app 115 2 16 (tm 27) (tm 33)),
 Qd 8 5 (.mv (tm 34))] [1, 2, 5, 14, 15, 16] [8]
abbrev f35r7 : Pc := .reg [
 Qd 0 35 (.bin .add (tm 16) (kz 1)),
 Qd 1 16 (.mv (tm 35))] [1, 2, 5, 14, 15, 16] []
def f35l0 : Pc := (.seq f35r3 (.seq (.cond (tm 17) .skip (.exit 0)) (.seq (.block 1 (.seq f35r4 (.seq f35r5 f35r6))) f35r7)))
theorem f35l0e (C : Cfg) (s : St) : evL C f35l0 s = evL C (.seq f35r3 (.seq (.cond (tm 17) .skip (.exit 0)) (.seq (.block 1 (.seq f35r4 (.seq f35r5 f35r6))) f35r7))) s := rfl
abbrev f35r8 : Pc := .reg [
 Qd 0 10 (.nilv 73 4)] [1, 2, 5, 10] []
abbrev f35r9 : Pc := .reg [
 Qd 0 11 (.mv (kz 0))] [1, 2, 5, 10, 11] []
abbrev f35r10 : Pc := .reg [
 Qd 0 36 (.mv (tm 11)),
 Qd 1 37 (.mv (tm 1)),
 Qd 2 38 (.lenL (tm 37)),
 Qd 3 39 (.bin .lss (tm 36) (tm 38))] [1, 2, 5, 10, 11, 39] []
abbrev f35r12 : Pc := .reg [
 Qd 0 43 (.fad 0 (tm 2)),
 Qd 1 44 (.load false 1 (tm 43)),
 Qd 2 45 (.mv (tm 1)),
 Qd 3 46 (.mv (tm 11)),
 Qd 4 47 (.ixS 1 (tm 45) (tm 46)),
 Qd 5 48 (.load false 1 (tm 47)),
 Qd 6 49 (.callq 65 [(tm 44), (tm 48)]),
 Qd 7 42 (.mv (tm 49)),
 Qd 8 50 (.ext 0 (tm 42)),
 Qd 9 51 (.ext 1 (tm 42)),
 Qd 10 12 (.alloc 112 [(.t (.i .i64 0)), (.t (.i .i64 0)), (.t (.i .i64 0)), (.t (.i .i64 0))]),
 Qn 11 (.store 4 (tm 12) (tm 50)),
 Qd 12 13 (.mv (tm 51))] [1, 2, 5, 10, 11, 12] []
abbrev f35r13 : Pc := .reg [
 Qd 0 52 (.mv (tm 5)),
 Qd 1 53 (.fad 1 (tm 2)),
 Qd 2 54 (.load false 1 (tm 53)),
 Qd 3 55 (.lenL (tm 54)),
 Qd 4 56 (.fad 2 (tm 2)),
 Qd 5 57 (.load false 1 (tm 56)),
 Qd 6 58 (.mv (tm 11)),
 Qd 7 59 (.call 66 [(tm 52), (tm 55), (tm 57), (tm 58), (kz 0)]),
 Qd 8 60 (.bin .geq (tm 59) (kz 0))] [1, 2, 5, 10, 11, 12, 60] []
abbrev f35r14 : Pc := .reg [
 Qd 0 61 (.mv (tm 10)),
 Qd 1 62 (.mv (tm 11)),
 Qd 2 63 (.fad 0 (tm 12)),
 Qd 3 64 (.load false 1 (tm 63)),
 Qd 4 65 (.fad 2 (tm 12)),
 Qd 5 66 (.load false 1 (tm 65)),
 Qd 6 67 (.build [(.t (.i .i64 0)), (.t (.i .i64 0)), (.t (.i .i64 0)), (.t (.i .i64 0))] [(0, 1, (tm 62)), (1, 1, (kz 0)), (2, 1, (tm 64)), (3, 1, (tm 66))]),
 Qd 7 68 (.bslT 4 [(tm 67)]),
 Qd 8 69 (.app 73 4 32 (tm 61) (tm 68)),
 Qd 9 10 (.mv (tm 69))] [1, 2, 5, 10, 11, 12] []
abbrev f35r15 : Pc := .reg [
 Qd 0 70 (.mv (tm 5)),
 Qd 1 71 (.fad 1 (tm 2)),
 Qd 2 72 (.load false 1 (tm 71)),
 Qd 3 73 (.lenL (tm 72)),
 Qd 4 74 (.fad 2 (tm 2)),
 Qd 5 75 (.load false 1 (tm 74)),
 Qd 6 76 (.mv (tm 11)),
 Qd 7 77 (.call 66 [(tm 70), (tm 73), (tm 75), (tm 76), (kz 1)]),
 Qd 8 78 (.bin .geq (tm 77) (kz 0))] [1, 2, 5, 10, 11, 12, 78] []
abbrev f35r16 : Pc := .reg [
 Qd 0 79 (.mv (tm 10)),
 Qd 1 80 (.mv (tm 11)),
 Qd 2 81 (.fad 1 (tm 12)),
 Qd 3 82 (.load false 1 (tm 81)),
 Qd 4 83 (.fad 3 (tm 12)),
 Qd 5 84 (.load false 1 (tm 83)),
 Qd 6 85 (.build [(.t (.i .i64 0)), (.t (.i .i64 0)), (.t (.i .i64 0)), (.t (.i .i64 0))] [(0, 1, (tm 80)), (1, 1, (kz 1)), (2, 1, (tm 82)), (3, 1, (tm 84))]),
 Qd 7 86 (.bslT 4 [(tm 85)]),
 Qd 8 87 (.app 73 4 32 (tm 79) (tm 86)),
 Qd 9 10 (.mv (tm 87))] [1, 2, 5, 10, 11] [12]
abbrev f35r11 : Pc := .reg [
 Qd 0 40 (.mv (tm 11)),
 Qd 1 41 (.bin .add (tm 40) (kz 1)),
 Qd 2 11 (.mv (tm 41))] [1, 2, 5, 10, 11] [12]
def f35l1 : Pc := (.seq (.seq f35r10 (.cond (tm 39) .skip (.exit 2))) (.seq (.block 3 (.seq f35r12 (.seq (.seq f35r13 (.cond (tm 60) f35r14 .skip)) (.seq f35r15 (.cond (tm 78) f35r16 .skip))))) f35r11))
theorem f35l1e (C : Cfg) (s : St) : evL C f35l1 s = evL C (.seq (.seq f35r10 (.cond (tm 39) .skip (.exit 2))) (.seq (.block 3 (.seq f35r12 (.seq (.seq f35r13 (.cond (tm 60) f35r14 .skip)) (.seq f35r15 (.cond (tm 78) f35r16 .skip))))) f35r11)) s := rfl
abbrev f35r17 : Pc := .reg [
 Qd 0 88 (.mv (tm 10)),
 Qd 1 4 (.mv (tm 88))] [4] [2, 5, 34]
abbrev f35b : Pc := (.seq f35r0 (.seq f35r1 (.seq (.seq f35r2 (.block 0 (.loop f35l0))) (.seq f35r8 (.seq (.seq f35r9 (.block 2 (.loop f35l1))) (.seq f35r17 .ret))))))
abbrev f35 : Pfn := ⟨2, 89, [.tmp 4], f35b⟩
def f35K : Array (List Nat) := #[[1, 2], [1, 2, 5], [1, 2, 5, 14, 15, 16], [1, 2, 5, 14, 15, 16, 17], [1, 2, 5, 7, 14, 15, 16], [1, 2, 5, 8, 14, 15, 16], [1, 2, 5, 14, 15, 16], [1, 2, 5, 14, 15, 16], [1, 2, 5, 10], [1, 2, 5, 10, 11], [1, 2, 5, 10, 11, 39], [1, 2, 5, 10, 11], [1, 2, 5, 10, 11, 12], [1, 2, 5, 10, 11, 12, 60], [1, 2, 5, 10, 11, 12], [1, 2, 5, 10, 11, 12, 78], [1, 2, 5, 10, 11], [4]]
def f35H : Array (List Nat) := #[[4, 10, 69, 87], [], [], [], [], [], [8], [], [], [], [], [12], [], [], [], [], [12], [2, 5, 34]]
def f35A : Ann := ⟨fun r => f35K.getD r [], fun r => f35H.getD r [], fun r i => ([] : List (Nat × Nat)).contains (r, i)⟩
theorem f35C : compF Go.Proofs.Tryz.prog f35A 35 = some f35 := by kernel_rfl

abbrev f36r0 : Pc := .reg [
 Qd 0 4 (.nilv 3 1)] [0, 1] [4, 5, 27]
abbrev f36r1 : Pc := .reg [
 Qd 0 5 (.nilv 3 1)] [0, 1, 5] []
abbrev f36r2 : Pc := .reg [
 Qd 0 6 (.mv (kz 0))] [0, 1, 5, 6] []
abbrev f36r3 : Pc := .reg [
 Qd 0 7 (.mv (tm 6)),
 Qd 1 8 (.mv (tm 0)),
 Qd 2 9 (.lenL (tm 8)),
 Qd 3 10 (.bin .lss (tm 7) (tm 9))] [0, 1, 5, 6, 10] []
abbrev f36r5 : Pc := .reg [
 Qd 0 13 (.mv (tm 5)),
 Qd 1 14 (.mv (tm 0)),
 Qd 2 15 (.mv (tm 6)),
 Qd 3 16 (.ixS 1 (tm 14) (tm 15)),
 Qd 4 17 (.load false 1 (tm 16)),
 Qd 5 18 (.callq 67 [(tm 17)]),
 Qd 6 19 (.mv (tm 1)),
 Qd 7 20 (.mv (tm 6)),
 Qd 8 21 (.ixS 1 (tm 19) (tm 20)),
 Qd 9 22 (.load false 1 (tm 21)),
 Qd 10 23 (.callq 67 [(tm 22)]),
 Qd 11 24 (.bin .add (tm 18) (tm 23)),
 Qd 12 25 (.callq 67 [(tm 24)]),
 Qd 13 26 (.bslT 1 [(tm 25)]),
 Qd 14 27 (.app 3 1 8 (tm 13) (tm 26)),
 Qd 15 5 (.mv (tm 27))] [0, 1, 5, 6] []
abbrev f36r4 : Pc := .reg [
 Qd 0 11 (.mv (tm 6)),
 Qd 1 12 (.bin .add (tm 11) (kz 1)),
 Qd 2 6 (.mv (tm 12))] [0, 1, 5, 6] []
def f36l0 : Pc := (.seq (.seq f36r3 (.cond (tm 10) .skip (.exit 0))) (.seq (.block 1 f36r5) f36r4))
theorem f36l0e (C : Cfg) (s : St) : evL C f36l0 s = evL C (.seq (.seq f36r3 (.cond (tm 10) .skip (.exit 0))) (.seq (.block 1 f36r5) f36r4)) s := rfl
abbrev f36r6 : Pc := .reg [
 Qd 0 28 (.mv (tm 5)),
 Qd 1 4 (.mv (tm 28))] [4] []
abbrev f36b : Pc := (.seq f36r0 (.seq f36r1 (.seq (.seq f36r2 (.block 0 (.loop f36l0))) (.seq f36r6 .ret))))
abbrev f36 : Pfn := ⟨2, 29, [.tmp 4], f36b⟩
def f36K : Array (List Nat) := #[[0, 1], [0, 1, 5], [0, 1, 5, 6], [0, 1, 5, 6, 10], [0, 1, 5, 6], [0, 1, 5, 6], [4]]
def f36H : Array (List Nat) := #[[4, 5, 27], [], [], [], [], [], []]
def f36A : Ann := ⟨fun r => f36K.getD r [], fun r => f36H.getD r [], fun r i => ([] : List (Nat × Nat)).contains (r, i)⟩
theorem f36C : compF Go.Proofs.Tryz.prog f36A 36 = some f36 := by kernel_rfl

abbrev f37r0 : Pc := .reg [
 Qd 0 4 (.nilv 3 1)] [0, 1] [4, 5, 21]
abbrev f37r1 : Pc := .reg [
 Qd 0 5 (.nilv 3 1)] [0, 1, 5] []
abbrev f37r2 : Pc := .reg [
 Qd 0 6 (.mv (kz 0))] [0, 1, 5, 6] []
abbrev f37r3 : Pc := .reg [
 Qd 0 7 (.mv (tm 6)),
 Qd 1 8 (.mv (tm 0)),
 Qd 2 9 (.lenL (tm 8)),
 Qd 3 10 (.bin .lss (tm 7) (tm 9))] [0, 1, 5, 6, 10] []
abbrev f37r5 : Pc := .reg [
 Qd 0 13 (.mv (tm 5)),
 Qd 1 14 (.mv (tm 0)),
 Qd 2 15 (.mv (tm 6)),
 Qd 3 16 (.ixS 1 (tm 14) (tm 15)),
 Qd 4 17 (.load false 1 (tm 16)),
 Qd 5 18 (.mv (tm 1)),
 Qd 6 19 (.call 68 [(tm 17), (tm 18)]),
 Qd 7 20 (.bslT 1 [(tm 19)]),
 Qd 8 21 (.app 3 1 8 (tm 13) (tm 20)),
 Qd 9 5 (.mv (tm 21))] [0, 1, 5, 6] []
abbrev f37r4 : Pc := .reg [
 Qd 0 11 (.mv (tm 6)),
 Qd 1 12 (.bin .add (tm 11) (kz 1)),
 Qd 2 6 (.mv (tm 12))] [0, 1, 5, 6] []
def f37l0 : Pc := (.seq (.seq f37r3 (.cond (tm 10) .skip (.exit 0))) (.seq (.block 1 f37r5) f37r4))
theorem f37l0e (C : Cfg) (s : St) : evL C f37l0 s = evL C (.seq (.seq f37r3 (.cond (tm 10) .skip (.exit 0))) (.seq (.block 1 f37r5) f37r4)) s := rfl
abbrev f37r6 : Pc := .reg [
 Qd 0 22 (.mv (tm 5)),
 Qd 1 4 (.mv (tm 22))] [4] []
abbrev f37b : Pc := (.seq f37r0 (.seq f37r1 (.seq (.seq f37r2 (.block 0 (.loop f37l0))) (.seq f37r6 .ret))))
abbrev f37 : Pfn := ⟨2, 23, [.tmp 4], f37b⟩
def f37K : Array (List Nat) := #[[0, 1], [0, 1, 5], [0, 1, 5, 6], [0, 1, 5, 6, 10], [0, 1, 5, 6], [0, 1, 5, 6], [4]]
def f37H : Array (List Nat) := #[[4, 5, 21], [], [], [], [], [], []]
def f37A : Ann := ⟨fun r => f37K.getD r [], fun r => f37H.getD r [], fun r i => ([] : List (Nat × Nat)).contains (r, i)⟩
theorem f37C : compF Go.Proofs.Tryz.prog f37A 37 = some f37 := by kernel_rfl

abbrev f38r0 : Pc := .reg [
 Qd 0 2 (.box 34 2 (tm 0)),
 Qd 1 4 (.nilv 3 1)] [1, 2] [4]
abbrev f38r1 : Pc := .reg [
 Qd 0 10 (.fad 0 (tm 2)),
 Qd 1 11 (.load false 1 (tm 10)),
 Qd 2 12 (.mv (tm 1)),
 Qd 3 13 (.call 69 [(tm 11), (tm 12)]),
 Qd 4 9 (.mv (tm 13)),
 Qd 5 14 (.ext 0 (tm 9)),
 Qd 6 15 (.ext 1 (tm 9)),
 Qd 7 5 (.mv (tm 14)),
 Qd 8 6 (.mv (tm 15))] [2, 5] []
abbrev f38r2 : Pc := .reg [
 Qd 0 17 (.fad 1 (tm 2)),
 Qd 1 18 (.load false 1 (tm 17)),
 Qd 2 19 (.mv (tm 5)),
 Qd 3 20 (.callq 70 [(tm 19)]),
 Qd 4 21 (.callq 69 [(tm 18), (tm 20)]),
 Qd 5 16 (.mv (tm 21)),
 Qd 6 22 (.ext 0 (tm 16)),
 Qd 7 23 (.ext 1 (tm 16)),
 Qd 8 7 (.mv (tm 22)),
 Qd 9 8 (.mv (tm 23))] [7] [2]
abbrev f38r3 : Pc := .reg [
 Qd 0 24 (.mv (tm 7)),
 Qd 1 4 (.mv (tm 24))] [4] []
abbrev f38b : Pc := (.seq f38r0 (.seq f38r1 (.seq f38r2 (.seq f38r3 .ret))))
abbrev f38 : Pfn := ⟨2, 25, [.tmp 4], f38b⟩
def f38K : Array (List Nat) := #[[1, 2], [2, 5], [7], [4]]
def f38H : Array (List Nat) := #[[4], [], [2], []]
def f38A : Ann := ⟨fun r => f38K.getD r [], fun r => f38H.getD r [], fun r i => ([] : List (Nat × Nat)).contains (r, i)⟩
theorem f38C : compF Go.Proofs.Tryz.prog f38A 38 = some f38 := by kernel_rfl

abbrev f39r0 : Pc := .reg [
 Qd 0 1 (.box 41 2 (tm 0)),
 Qd 1 2 (.mv kF)] [1] []
abbrev f39r1 : Pc := .reg [
 Qd 0 3 (.fad 0 (tm 1)),
 Qd 1 4 (.load false 1 (tm 3)),
 Qd 2 5 (.bin .geq (tm 4) (kz 1)),
 Qd 3 6 (.mv (tm 5)),
 Gt 4 7 6 (.fad 0 (tm 1)),
 Gt 5 8 6 (.load false 1 (tm 7)),
 Gt 6 9 6 (.bin .leq (tm 8) (kz 8)),
 Qd 7 10 (.pick (tm 6) (tm 9) kF),
 Qd 8 11 (.mv (tm 10)),
 Gt 9 12 11 (.fad 1 (tm 1)),
 Gt 10 13 11 (.load false 1 (tm 12)),
 Gt 11 14 11 (.lenL (tm 13)),
 Gt 12 15 11 (.bin .geq (tm 14) (kz 1)),
 Qd 13 16 (.pick (tm 11) (tm 15) kF),
 Qd 14 17 (.mv (tm 16)),
 Gt 15 18 17 (.fad 1 (tm 1)),
 Gt 16 19 17 (.load false 1 (tm 18)),
 Gt 17 20 17 (.lenL (tm 19)),
 Gt 18 21 17 (.bin .leq (tm 20) (kz 4)),
 Qd 19 22 (.pick (tm 17) (tm 21) kF),
 Qd 20 23 (.mv (tm 22)),
 Gt 21 24 23 (.fad 1 (tm 1)),
 Gt 22 25 23 (.load false 1 (tm 24)),
 Gt 23 26 23 (.mkfn 71 [(tm 1)]),
 Gt 24 27 23 (.call 42 [(tm 25), (tm 26)]),
 Gt 25 28 23 (.un .not (tm 27)),
 Qd 26 29 (.pick (tm 23) (tm 28) kF),
 Qd 27 2 (.mv (tm 29))] [2] [1]
abbrev f39b : Pc := (.seq f39r0 (.seq f39r1 .ret))
abbrev f39 : Pfn := ⟨1, 30, [.tmp 2], f39b⟩
def f39K : Array (List Nat) := #[[1], [2]]
def f39H : Array (List Nat) := #[[], [1]]
def f39A : Ann := ⟨fun r => f39K.getD r [], fun r => f39H.getD r [], fun r i => ([] : List (Nat × Nat)).contains (r, i)⟩
theorem f39C : compF Go.Proofs.Tryz.prog f39A 39 = some f39 := by kernel_rfl

abbrev f40r0 : Pc := .reg [
 Qd 0 2 (.box 41 2 (tm 0)),
 Qd 1 4 (.mv kF)] [1, 2] []
abbrev f40r1 : Pc := .reg [
 Qd 0 5 (.mv (tm 1)),
 Qd 1 6 (.lenL (tm 5)),
 Qd 2 7 (.bin .geq (tm 6) (kz 1)),
 Qd 3 8 (.mv (tm 7)),
 Gt 4 9 8 (.mv (tm 1)),
 Gt 5 10 8 (.lenL (tm 9)),
 Gt 6 11 8 (.bin .leq (tm 10) (kz 16)),
 Qd 7 12 (.pick (tm 8) (tm 11) kF),
 Qd 8 13 (.mv (tm 12)),
 Gt 9 14 13 (.mv (tm 1)),
 Gt 10 15 13 (.mkfn 74 [(tm 2)]),
 Gt 11 16 13 (.call 73 [(tm 14), (tm 15)]),
 Gt 12 17 13 (.un .not (tm 16)),
 Qd 13 18 (.pick (tm 13) (tm 17) kF),
 Qd 14 4 (.mv (tm 18))] [4] [2]
abbrev f40b : Pc := (.seq f40r0 (.seq f40r1 .ret))
abbrev f40 : Pfn := ⟨2, 19, [.tmp 4], f40b⟩
def f40K : Array (List Nat) := #[[1, 2], [4]]
def f40H : Array (List Nat) := #[[], [2]]
def f40A : Ann := ⟨fun r => f40K.getD r [], fun r => f40H.getD r [], fun r i => ([] : List (Nat × Nat)).contains (r, i)⟩
theorem f40C : compF Go.Proofs.Tryz.prog f40A 40 = some f40 := by kernel_rfl

abbrev f41r0 : Pc := .reg [
 Qd 0 1 (.box 50 2 (tm 0)),
 Qd 1 2 (.mv kF)] [1] []
abbrev f41r1 : Pc := .reg [
 Qd 0 8 (.fad 1 (tm 1)),
 Qd 1 9 (.load false 1 (tm 8)),
 Qd 2 10 (.lenL (tm 9)),
 Qd 3 11 (.mv (kz 0))] [1, 9, 10, 11] []
abbrev f41r2 : Pc := .reg [
 Qd 0 12 (.bin .lss (tm 11) (tm 10))] [1, 9, 10, 11, 12] []
abbrev f41r3 : Pc := .reg [
 Qd 0 13 (.ixS 1 (tm 9) (tm 11)),
 Qd 1 14 (.load false 1 (tm 13)),
 Qd 2 4 (.mv (tm 14))] [1, 4, 9, 10, 11] []
abbrev f41r4 : Pc := .reg [
 Qd 0 5 (.mv (kz 0))] [1, 4, 5, 9, 10, 11] []
abbrev f41r5 : Pc := .reg [
 Qd 0 15 (.mv (tm 4)),
 Qd 1 16 (.lenL (tm 15)),
 Qd 2 17 (.mv (kz 0))] [1, 4, 5, 9, 10, 11, 15, 16, 17] []
abbrev f41r6 : Pc := .reg [
 Qd 0 18 (.bin .lss (tm 17) (tm 16))] [1, 4, 5, 9, 10, 11, 15, 16, 17, 18] []
abbrev f41r7 : Pc := .reg [
 Qd 0 19 (.ixS 1 (tm 15) (tm 17)),
 Qd 1 20 (.load false 1 (tm 19)),
 Qd 2 7 (.mv (tm 20))] [1, 4, 5, 7, 9, 10, 11, 15, 16, 17] []
abbrev f41r8 : Pc := .reg [
 Qd 0 21 (.mv (tm 7)),
 Qd 1 22 (.mv (tm 5)),
 Qd 2 23 (.bin .leq (tm 21) (tm 22)),
 Qd 3 24 (.mv (tm 23)),
 Gf 4 25 24 (.mv (tm 7)),
 Gf 5 26 24 (.bin .gtr (tm 25) (kz 4)),
 Qd 6 27 (.pick (tm 24) kT (tm 26))] [1, 4, 7, 9, 10, 11, 15, 16, 17, 27] []
abbrev f41r9 : Pc := .reg [
 Qd 0 2 (.mv kF)] [2] [1]
abbrev f41r10 : Pc := .reg [
 Qd 0 28 (.mv (tm 7)),
 Qd 1 5 (.mv (tm 28))] [1, 4, 5, 9, 10, 11, 15, 16, 17] []
abbrev f41r11 : Pc := .reg [
 Qd 0 29 (.bin .add (tm 17) (kz 1)),
 Qd 1 17 (.mv (tm 29))] [1, 4, 5, 9, 10, 11, 15, 16, 17] []
def f41l0 : Pc := (.seq f41r6 (.seq (.cond (tm 18) .skip (.exit 2)) (.seq (.block 3 (.seq f41r7 (.seq (.seq f41r8 (.cond (tm 27) (.seq f41r9 .ret) .skip)) f41r10))) f41r11)))
theorem f41l0e (C : Cfg) (s : St) : evL C f41l0 s = evL C (.seq f41r6 (.seq (.cond (tm 18) .skip (.exit 2)) (.seq (.block 3 (.seq f41r7 (.seq (.seq f41r8 (.cond (tm 27) (.seq f41r9 .ret) .skip)) f41r10))) f41r11))) s := rfl
abbrev f41r12 : Pc := .reg [
 Qd 0 30 (.mv (tm 4)),
 Qd 1 31 (.lenL (tm 30)),
 Qd 2 32 (.bin .eql (tm 31) (kz 0))] [1, 9, 10, 11, 32] []
abbrev f41r13 : Pc := .reg [
 Qd 0 2 (.mv kF)] [2] [1]
abbrev f41r14 : Pc := .reg [
 Qd 0 33 (.bin .add (tm 11) (kz 1)),
 Qd 1 11 (.mv (tm 33))] [1, 9, 10, 11] []
def f41l1 : Pc := (.seq f41r2 (.seq (.cond (tm 12) .skip (.exit 0)) (.seq (.block 1 (.seq f41r3 (.seq f41r4 (.seq (.seq f41r5 (.block 2 (.loop f41l0))) (.seq f41r12 (.cond (tm 32) (.seq f41r13 .ret) .skip)))))) f41r14)))
theorem f41l1e (C : Cfg) (s : St) : evL C f41l1 s = evL C (.seq f41r2 (.seq (.cond (tm 12) .skip (.exit 0)) (.seq (.block 1 (.seq f41r3 (.seq f41r4 (.seq (.seq f41r5 (.block 2 (.loop f41l0))) (.seq f41r12 (.cond (tm 32) (.seq f41r13 .ret) .skip)))))) f41r14))) s := rfl
abbrev f41r15 : Pc := .reg [
 Qd 0 34 (.fad 0 (tm 1)),
 Qd 1 35 (.load false 1 (tm 34)),
 Qd 2 36 (.bin .geq (tm 35) (kz 0)),
 Qd 3 37 (.mv (tm 36)),
 Gt 4 38 37 (.fad 0 (tm 1)),
 Gt 5 39 37 (.load false 1 (tm 38)),
 Gt 6 40 37 (.bin .leq (tm 39) (kz 2147483647)),
 Qd 7 41 (.pick (tm 37) (tm 40) kF),
 Qd 8 42 (.mv (tm 41)),
 Gt 9 43 42 (.fad 1 (tm 1)),
 Gt 10 44 42 (.load false 1 (tm 43)),
 Gt 11 45 42 (.lenL (tm 44)),
 Gt 12 46 42 (.bin .leq (tm 45) (kz 8)),
 Qd 13 47 (.pick (tm 42) (tm 46) kF),
 Qd 14 2 (.mv (tm 47))] [2] [1]
abbrev f41b : Pc := (.seq f41r0 (.seq (.seq f41r1 (.block 0 (.loop f41l1))) (.seq f41r15 .ret)))
abbrev f41 : Pfn := ⟨1, 48, [.tmp 2], f41b⟩
def f41K : Array (List Nat) := #[[1], [1, 9, 10, 11], [1, 9, 10, 11, 12], [1, 4, 9, 10, 11], [1, 4, 5, 9, 10, 11], [1, 4, 5, 9, 10, 11, 15, 16, 17], [1, 4, 5, 9, 10, 11, 15, 16, 17, 18], [1, 4, 5, 7, 9, 10, 11, 15, 16, 17], [1, 4, 7, 9, 10, 11, 15, 16, 17, 27], [2], [1, 4, 5, 9, 10, 11, 15, 16, 17], [1, 4, 5, 9, 10, 11, 15, 16, 17], [1, 9, 10, 11, 32], [2], [1, 9, 10, 11], [2]]
def f41H : Array (List Nat) := #[[], [], [], [], [], [], [], [], [], [1], [], [], [], [1], [], [1]]
def f41A : Ann := ⟨fun r => f41K.getD r [], fun r => f41H.getD r [], fun r i => ([] : List (Nat × Nat)).contains (r, i)⟩
theorem f41C : compF Go.Proofs.Tryz.prog f41A 41 = some f41 := by kernel_rfl

abbrev f42r0 : Pc := .reg [
 Qd 0 4 (.mv kF)] [0, 1] []
abbrev f42r1 : Pc := .reg [
 Qd 0 5 (.mv (tm 0)),
 Qd 1 6 (.mv (tm 1)),
 Qd 2 7 (.call 78 [(tm 5), (tm 6)]),
 Qd 3 8 (.bin .geq (tm 7) (kz 0)),
 Qd 4 4 (.mv (tm 8))] [4] []
abbrev f42b : Pc := (.seq f42r0 (.seq f42r1 .ret))
abbrev f42 : Pfn := ⟨2, 9, [.tmp 4], f42b⟩
def f42K : Array (List Nat) := #[[0, 1], [4]]
def f42H : Array (List Nat) := #[[], []]
def f42A : Ann := ⟨fun r => f42K.getD r [], fun r => f42H.getD r [], fun r i => ([] : List (Nat × Nat)).contains (r, i)⟩
theorem f42C : compF Go.Proofs.Tryz.prog f42A 42 = some f42 := by kernel_rfl

abbrev f43r0 : Pc := .reg [
 Qd 0 2 (.box 37 3 (tm 0)),
 Qd 1 3 (.mv kF)] [1, 2] []
abbrev f43r1 : Pc := .reg [
 Qd 0 4 (.fad 1 (tm 2)),
 Qd 1 5 (.load false 1 (tm 4)),
 Qd 2 6 (.lenL (tm 5)),
 Qd 3 7 (.fad 1 (tm 1)),
 Qd 4 8 (.load false 1 (tm 7)),
 Qd 5 9 (.lenL (tm 8)),
 Qd 6 10 (.bin .gtr (tm 6) (tm 9)),
 Qd 7 3 (.mv (tm 10))] [3] [2]
abbrev f43b : Pc := (.seq f43r0 (.seq f43r1 .ret))
abbrev f43 : Pfn := ⟨2, 11, [.tmp 3], f43b⟩
def f43K : Array (List Nat) := #[[1, 2], [3]]
def f43H : Array (List Nat) := #[[], [2]]
def f43A : Ann := ⟨fun r => f43K.getD r [], fun r => f43H.getD r [], fun r i => ([] : List (Nat × Nat)).contains (r, i)⟩
theorem f43C : compF Go.Proofs.Tryz.prog f43A 43 = some f43 := by kernel_rfl

abbrev f44r0 : Pc := .reg [
 Qd 0 2 (.nilv 31 1)] [0] [2, 5, 7]
abbrev f44r1 : Pc := .reg [
 Qd 0 3 (.mv (tm 0)),
 Qd 1 4 (.isnilS false (tm 3))] [0, 4] []
abbrev f44r2 : Pc := .reg [
 Qd 0 2 (.nilv 31 1)] [2] []
abbrev f44r3 : Pc := .reg [
 Qd 0 5 (.bslO 31 1 []),
 Qd 1 6 (.mv (tm 0)),
 Qd 2 7 (.app 31 1 24 (tm 5) (tm 6)),
 Qd 3 2 (.mv (tm 7))] [2] []
abbrev f44b : Pc := (.seq f44r0 (.seq (.seq f44r1 (.cond (tm 4) (.seq f44r2 .ret) .skip)) (.seq f44r3 .ret)))
abbrev f44 : Pfn := ⟨1, 8, [.tmp 2], f44b⟩
def f44K : Array (List Nat) := #[[0], [0, 4], [2], [2]]
def f44H : Array (List Nat) := #[[2, 5, 7], [], [], []]
def f44A : Ann := ⟨fun r => f44K.getD r [], fun r => f44H.getD r [], fun r i => ([(3, 0), (3, 0)] : List (Nat × Nat)).contains (r, i)⟩
theorem f44C : compF Go.Proofs.Tryz.prog f44A 44 = some f44 := by kernel_rfl

abbrev f45r0 : Pc := .reg [
 Qd 0 2 (.mv (tm 0)),
 Qd 1 3 (.nchk (tm 2)),
 Qd 2 4 (.fad 11 (tm 3)),
 Qd 3 5 (.load false 1 (tm 4)),
 Qd 4 6 (.mv (tm 0)),
 Qd 5 7 (.nchk (tm 6)),
 Qd 6 8 (.fad 0 (tm 7)),
 Qd 7 9 (.fad 1 (tm 8)),
 Qd 8 10 (.load false 1 (tm 9)),
 Qd 9 11 (.lenL (tm 10)),
 Qd 10 12 (.bin .geq (tm 5) (tm 11))] [0, 12] []
abbrev f45r1 : Pc := .reg [
 Qd 0 13 (.mv (tm 0)),
 Qd 1 14 (.mv (tm 0)),
 Qd 2 15 (.nchk (tm 14)),
 Qd 3 16 (.fad 0 (tm 15)),
 Qd 4 17 (.fad 1 (tm 16)),
 Qd 5 18 (.load false 1 (tm 17)),
 Qd 6 19 (.mv (tm 0)),
 Qd 7 20 (.nchk (tm 19)),
 Qd 8 21 (.fad 11 (tm 20)),
 Qd 9 22 (.load false 1 (tm 21)),
 Qd 10 23 (.ixS 3 (tm 18) (tm 22)),
 Qd 11 24 (.load true 3 (tm 23)),
 Qd 12 25 (.mv (tm 0)),
 Qd 13 26 (.nchk (tm 25)),
 Qd 14 27 (.fad 10 (tm 26)),
 Qd 15 28 (.load false 1 (tm 27)),
 Qd 16 29 (.callq 79 [(tm 24), (tm 28)]),
 Qd 17 30 (.nchk (tm 13)),
 Qd 18 31 (.fad 12 (tm 30)),
 Qn 19 (.store 1 (tm 31) (tm 29))] [0] []
abbrev f45r2 : Pc := .reg [
 Qd 0 32 (.mv (tm 0)),
 Qd 1 33 (.mv (tm 0)),
 Qd 2 34 (.nchk (tm 33)),
 Qd 3 35 (.fad 12 (tm 34)),
 Qd 4 36 (.load false 1 (tm 35)),
 Qd 5 37 (.lenL (tm 36)),
 Qd 6 38 (.mks 31 1 24 [(.l [])] (tm 37) (tm 37)),
 Qd 7 39 (.nchk (tm 32)),
 Qd 8 40 (.fad 13 (tm 39)),
 Qn 9 (.store 1 (tm 40) (tm 38))] [0] []
abbrev f45r3 : Pc := .reg [
 Qd 0 41 (.mv (tm 0)),
 Qd 1 42 (.mv (tm 0)),
 Qd 2 43 (.nchk (tm 42)),
 Qd 3 44 (.fad 12 (tm 43)),
 Qd 4 45 (.load false 1 (tm 44)),
 Qd 5 46 (.lenL (tm 45)),
 Qd 6 47 (.mks 4 1 1 [(.b false)] (tm 46) (tm 46)),
 Qd 7 48 (.nchk (tm 41)),
 Qd 8 49 (.fad 14 (tm 48)),
 Qn 9 (.store 1 (tm 49) (tm 47))] [0] []
abbrev f45r4 : Pc := .reg [
 Qd 0 50 (.mv (tm 0)),
 Qd 1 51 (.call 20 [(tm 50)])] [] []
abbrev f45b : Pc := (.seq (.seq f45r0 (.cond (tm 12) .ret .skip)) (.seq f45r1 (.seq f45r2 (.seq f45r3 f45r4))))
abbrev f45 : Pfn := ⟨1, 52, [], f45b⟩
def f45K : Array (List Nat) := #[[0, 12], [0], [0], [0], []]
def f45H : Array (List Nat) := #[[], [], [], [], []]
def f45A : Ann := ⟨fun r => f45K.getD r [], fun r => f45H.getD r [], fun r i => ([] : List (Nat × Nat)).contains (r, i)⟩
theorem f45C : compF Go.Proofs.Tryz.prog f45A 45 = some f45 := by kernel_rfl

abbrev f46r0 : Pc := .reg [
 Qd 0 2 (.mv (tm 0)),
 Qd 1 3 (.nchk (tm 2)),
 Qd 2 4 (.fad 11 (tm 3)),
 Qd 3 5 (.load false 1 (tm 4)),
 Qd 4 6 (.mv (tm 0)),
 Qd 5 7 (.nchk (tm 6)),
 Qd 6 8 (.fad 0 (tm 7)),
 Qd 7 9 (.fad 1 (tm 8)),
 Qd 8 10 (.load false 1 (tm 9)),
 Qd 9 11 (.lenL (tm 10)),
 Qd 10 12 (.bin .lss (tm 5) (tm 11)),
 Qd 11 13 (.mv (tm 12)),
 Gt 12 14 13 (.mv (tm 0)),
 Gt 13 15 13 (.nchk (tm 14)),
 Gt 14 16 13 (.fad 14 (tm 15)),
 Gt 15 17 13 (.load false 1 (tm 16)),
 Gt 16 18 13 (.callq 80 [(tm 17), kF]),
 Gt 17 19 13 (.un .not (tm 18)),
 Qd 18 20 (.pick (tm 13) (tm 19) kF)] [0, 20] []
abbrev f46r1 : Pc := .reg [
 Qd 0 21 (.mv (tm 0)),
 Qd 1 22 (.mv (tm 0)),
 Qd 2 23 (.nchk (tm 22)),
 Qd 3 24 (.fad 10 (tm 23)),
 Qd 4 25 (.load false 1 (tm 24)),
 Qd 5 26 (.mv (tm 0)),
 Qd 6 27 (.nchk (tm 26)),
 Qd 7 28 (.fad 12 (tm 27)),
 Qd 8 29 (.load false 1 (tm 28)),
 Qd 9 30 (.mv (tm 0)),
 Qd 10 31 (.nchk (tm 30)),
 Qd 11 32 (.fad 13 (tm 31)),
 Qd 12 33 (.load false 1 (tm 32)),
 Qd 13 34 (.call 81 [(tm 25), (tm 29), (tm 33)]),
 Qd 14 35 (.nchk (tm 21)),
 Qd 15 36 (.fad 10 (tm 35)),
 Qn 16 (.store 1 (tm 36) (tm 34))] [0] []
abbrev f46r2 : Pc := .reg [
 Qd 0 37 (.mv (tm 0)),
 Qd 1 38 (.nchk (tm 37)),
 Qd 2 39 (.fad 11 (tm 38)),
 Qd 3 40 (.load false 1 (tm 39)),
 Qd 4 41 (.bin .add (tm 40) (kz 1)),
 Qd 5 42 (.nchk (tm 37)),
 Qd 6 43 (.fad 11 (tm 42)),
 Qn 7 (.store 1 (tm 43) (tm 41))] [0] []
abbrev f46r3 : Pc := .reg [
 Qd 0 44 (.mv (tm 0)),
 Qd 1 45 (.call 45 [(tm 44)])] [0] []
def f46l0 : Pc := (.seq (.seq f46r0 (.cond (tm 20) .skip (.exit 0))) (.block 1 (.seq f46r1 (.seq f46r2 f46r3))))
theorem f46l0e (C : Cfg) (s : St) : evL C f46l0 s = evL C (.seq (.seq f46r0 (.cond (tm 20) .skip (.exit 0))) (.block 1 (.seq f46r1 (.seq f46r2 f46r3)))) s := rfl
abbrev f46b : Pc := (.block 0 (.loop f46l0))
abbrev f46 : Pfn := ⟨1, 46, [], f46b⟩
def f46K : Array (List Nat) := #[[0, 20], [0], [0], [0]]
def f46H : Array (List Nat) := #[[], [], [], []]
def f46A : Ann := ⟨fun r => f46K.getD r [], fun r => f46H.getD r [], fun r i => ([(1, 2013)] : List (Nat × Nat)).contains (r, i)⟩
theorem f46C : compF Go.Proofs.Tryz.prog f46A 46 = some f46 := by kernel_rfl

abbrev f48r0 : Pc := .reg [
 Qd 0 3 (.box 50 2 (tm 0)),
 Qd 1 6 (.mv (kz 0)),
 Qd 2 7 (.mv kF)] [1, 2, 3] []
abbrev f48r1 : Pc := .reg [
 Qd 0 9 (.load true 2 (tm 3)),
 Qd 1 10 (.call 41 [(tm 9)]),
 Qd 2 11 (.un .not (tm 10)),
 Qd 3 12 (.mv (tm 11)),
 Gf 4 13 12 (.mv (tm 1)),
 Gf 5 14 12 (.bin .lss (tm 13) (kz 0)),
 Qd 6 15 (.pick (tm 12) kT (tm 14)),
 Qd 7 16 (.mv (tm 15)),
 Gf 8 17 16 (.mv (tm 1)),
 Gf 9 18 16 (.fad 1 (tm 3)),
 Gf 10 19 16 (.load false 1 (tm 18)),
 Gf 11 20 16 (.lenL (tm 19)),
 Gf 12 21 16 (.bin .geq (tm 17) (tm 20)),
 Qd 13 22 (.pick (tm 16) kT (tm 21)),
 Qd 14 23 (.mv (tm 22)),
 Gf 15 24 23 (.mv (tm 2)),
 Gf 16 25 23 (.bin .lss (tm 24) (kz 0)),
 Qd 17 26 (.pick (tm 23) kT (tm 25))] [1, 2, 3, 26] []
abbrev f48r2 : Pc := .reg [
 Qd 0 6 (.mv (kz 0)),
 Qd 1 7 (.mv kF)] [6, 7] [3]
abbrev f48r3 : Pc := .reg [
 Qd 0 27 (.fad 1 (tm 3)),
 Qd 1 28 (.load false 1 (tm 27)),
 Qd 2 29 (.mv (tm 1)),
 Qd 3 30 (.ixS 1 (tm 28) (tm 29)),
 Qd 4 31 (.load false 1 (tm 30)),
 Qd 5 8 (.mv (tm 31))] [2, 8] [3]
abbrev f48r4 : Pc := .reg [
 Qd 0 32 (.mv (tm 8)),
 Qd 1 33 (.mv (tm 2)),
 Qd 2 34 (.mv (tm 8)),
 Qd 3 35 (.lenL (tm 34)),
 Qd 4 36 (.bin .rem (tm 33) (tm 35)),
 Qd 5 37 (.ixS 1 (tm 32) (tm 36)),
 Qd 6 38 (.load false 1 (tm 37)),
 Qd 7 6 (.mv (tm 38)),
 Qd 8 7 (.mv kT)] [6, 7] []
abbrev f48b : Pc := (.seq f48r0 (.seq (.seq f48r1 (.cond (tm 26) (.seq f48r2 .ret) .skip)) (.seq f48r3 (.seq f48r4 .ret))))
abbrev f48 : Pfn := ⟨3, 39, [.tmp 6, .tmp 7], f48b⟩
def f48K : Array (List Nat) := #[[1, 2, 3], [1, 2, 3, 26], [6, 7], [2, 8], [6, 7]]
def f48H : Array (List Nat) := #[[], [], [3], [3], []]
def f48A : Ann := ⟨fun r => f48K.getD r [], fun r => f48H.getD r [], fun r i => ([] : List (Nat × Nat)).contains (r, i)⟩
theorem f48C : compF Go.Proofs.Tryz.prog f48A 48 = some f48 := by kernel_rfl

abbrev f49r0 : Pc := .reg [
 Qd 0 3 (.box 95 11 (tm 1))] [0, 3] []
abbrev f49r1 : Pc := .reg [
 Qd 0 7 (.load true 11 (tm 3)),
 Qd 1 8 (.call 82 [(tm 7)]),
 Qd 2 6 (.mv (tm 8)),
 Qd 3 9 (.ext 0 (tm 6)),
 Qd 4 10 (.ext 1 (tm 6)),
 Qd 5 4 (.mv (tm 9)),
 Qd 6 5 (.mv (tm 10))] [0, 4, 5] []
abbrev f49r2 : Pc := .reg [
 Qd 0 11 (.mv (tm 5)),
 Qd 1 12 (.bin .eql (tm 11) (kz 0))] [0, 4, 12] []
abbrev f49r3 : Pc := .reg [
 Qd 0 13 (.mv (tm 0)),
 Qd 1 14 (.mv (tm 0)),
 Qd 2 15 (.nchk (tm 14)),
 Qd 3 16 (.fad 9 (tm 15)),
 Qd 4 17 (.load false 1 (tm 16)),
 Qd 5 18 (.mv (tm 4)),
 Qd 6 19 (.call 83 [(tm 17), (tm 18)]),
 Qd 7 20 (.nchk (tm 13)),
 Qd 8 21 (.fad 9 (tm 20)),
 Qn 9 (.store 1 (tm 21) (tm 19))] [] []
abbrev f49b : Pc := (.seq f49r0 (.seq f49r1 (.seq f49r2 (.cond (tm 12) f49r3 .skip))))
abbrev f49 : Pfn := ⟨2, 22, [], f49b⟩
def f49K : Array (List Nat) := #[[0, 3], [0, 4, 5], [0, 4, 12], []]
def f49H : Array (List Nat) := #[[], [], [], []]
def f49A : Ann := ⟨fun r => f49K.getD r [], fun r => f49H.getD r [], fun r i => ([] : List (Nat × Nat)).contains (r, i)⟩
theorem f49C : compF Go.Proofs.Tryz.prog f49A 49 = some f49 := by kernel_rfl

abbrev f50r0 : Pc := .reg [
 Qd 0 4 (.mv (.c (.t (.s [])))),
 Qd 1 5 (.nilv 9 1),
 Qd 2 6 (.mv kF)] [0, 1] [5, 16, 22]
abbrev f50r1 : Pc := .reg [
 Qd 0 7 (.mv (tm 1)),
 Qd 1 8 (.bin .lss (tm 7) (kz 0)),
 Qd 2 9 (.mv (tm 8)),
 Gf 3 10 9 (.mv (tm 1)),
 Gf 4 11 9 (.mv (tm 0)),
 Gf 5 12 9 (.lenL (tm 11)),
 Gf 6 13 9 (.bin .geq (tm 10) (tm 12)),
 Qd 7 14 (.pick (tm 9) kT (tm 13))] [0, 1, 14] []
abbrev f50r2 : Pc := .reg [
 Qd 0 15 (.mv (tm 0)),
 Qd 1 16 (.call 57 [(tm 15)]),
 Qd 2 4 (.mv (.c (.t (.s [])))),
 Qd 3 5 (.mv (tm 16)),
 Qd 4 6 (.mv kF)] [4, 5, 6] []
abbrev f50r3 : Pc := .reg [
 Qd 0 17 (.mv (tm 0)),
 Qd 1 18 (.mv (tm 1)),
 Qd 2 19 (.ixS 1 (tm 17) (tm 18)),
 Qd 3 20 (.loadB false 1 (tm 19)),
 Qd 4 21 (.mv (tm 0)),
 Qd 5 22 (.callo 57 [(tm 21)]),
 Qd 6 23 (.mv (tm 1)),
 Qd 7 24 (.mv (tm 1)),
 Qd 8 25 (.bin .add (tm 24) (kz 1)),
 Qd 9 26 (.callR 84 [(tm 22), (tm 23), (tm 25)]),
 Qd 10 4 (.mv (tm 20)),
 Qd 11 5 (.mv (tm 26)),
 Qd 12 6 (.mv kT)] [4, 5, 6] []
abbrev f50b : Pc := (.seq f50r0 (.seq (.seq f50r1 (.cond (tm 14) (.seq f50r2 .ret) .skip)) (.seq f50r3 .ret)))
abbrev f50 : Pfn := ⟨2, 27, [.tmp 4, .tmp 5, .tmp 6], f50b⟩
def f50K : Array (List Nat) := #[[0, 1], [0, 1, 14], [4, 5, 6], [4, 5, 6]]
def f50H : Array (List Nat) := #[[5, 16, 22], [], [], []]
def f50A : Ann := ⟨fun r => f50K.getD r [], fun r => f50H.getD r [], fun r i => ([(3, 5), (3, 1009), (3, 3)] : List (Nat × Nat)).contains (r, i)⟩
theorem f50C : compF Go.Proofs.Tryz.prog f50A 50 = some f50 := by kernel_rfl

abbrev f51r0 : Pc := .reg [
 Qd 0 2 (.alloc 95 [(.t (.i .i64 0)), (.t (.i .i64 0)), (.t (.i .i64 0)), (.t (.i .i64 0)), (.t (.i .i64 0)), (.t (.i .i64 0)), (.t (.i .i64 0)), (.t (.i .i64 0)), (.t (.i .i64 0)), (.t (.i .i64 0)), .nl]),
 Qd 1 3 (.mv (kz 0))] [0, 2] []
abbrev f51r1 : Pc := .reg [
 Qd 0 10 (.mv (tm 0)),
 Qd 1 11 (.lenS (tm 10)),
 Qd 2 12 (.bin .lss (tm 11) (kz 52)),
 Qd 3 13 (.mv (tm 12)),
 Gf 4 14 13 (.mv (tm 0)),
 Gf 5 15 13 (.call 85 [(tm 14), (kz 0)]),
 Gf 6 16 13 (.mv (tm 0)),
 Gf 7 17 13 (.lenS (tm 16)),
 Gf 8 18 13 (.bin .sub (tm 17) (kz 4)),
 Gf 9 19 13 (.bin .neq (tm 15) (tm 18)),
 Qd 10 20 (.pick (tm 13) kT (tm 19)),
 Qd 11 21 (.mv (tm 20)),
 Gf 12 22 21 (.mv (tm 0)),
 Gf 13 23 21 (.lenS (tm 22)),
 Gf 14 24 21 (.bin .rem (tm 23) (kz 4)),
 Gf 15 25 21 (.bin .neq (tm 24) (kz 0)),
 Qd 16 26 (.pick (tm 21) kT (tm 25))] [0, 2, 26] []
abbrev f51r2 : Pc := .reg [
 Qd 0 27 (.build [(.t (.i .i64 0)), (.t (.i .i64 0)), (.t (.i .i64 0)), (.t (.i .i64 0)), (.t (.i .i64 0)), (.t (.i .i64 0)), (.t (.i .i64 0)), (.t (.i .i64 0)), (.t (.i .i64 0)), (.t (.i .i64 0)), .nl] []),
 Qn 1 (.store 11 (tm 2) (tm 27)),
 Qd 2 3 (.mv (kz 2))] [2, 3] []
abbrev f51r3 : Pc := .reg [
 Qd 0 28 (.mv (tm 0)),
 Qd 1 29 (.lenS (tm 28)),
 Qd 2 30 (.bin .quo (tm 29) (kz 4)),
 Qd 3 31 (.bin .sub (tm 30) (kz 1)),
 Qd 4 4 (.mv (tm 31))] [0, 2, 4] []
abbrev f51r4 : Pc := .reg [
 Qd 0 32 (.mv (tm 0)),
 Qd 1 33 (.mv (tm 4)),
 Qd 2 34 (.callq 85 [(tm 32), (tm 33)]),
 Qd 3 35 (.mv (tm 0)),
 Qd 4 36 (.mv (tm 4)),
 Qd 5 37 (.bin .mul (kz 4) (tm 36)),
 Qd 6 38 (.slS (tm 35) (some (kz 4)) (some (tm 37))),
 Qd 7 39 (.callq 86 [(tm 38)]),
 Qd 8 40 (.bin .neq (tm 34) (tm 39))] [0, 2, 4, 40] []
abbrev f51r5 : Pc := .reg [
 Qd 0 41 (.build [(.t (.i .i64 0)), (.t (.i .i64 0)), (.t (.i .i64 0)), (.t (.i .i64 0)), (.t (.i .i64 0)), (.t (.i .i64 0)), (.t (.i .i64 0)), (.t (.i .i64 0)), (.t (.i .i64 0)), (.t (.i .i64 0)), .nl] []),
 Qn 1 (.store 11 (tm 2) (tm 41)),
 Qd 2 3 (.mv (kz 9))] [2, 3] []
abbrev f51r6 : Pc := .reg [
 Qd 0 42 (.mv (tm 4)),
 Qd 1 43 (.mks 3 1 8 [(.i .i64 0)] (tm 42) (tm 42)),
 Qd 2 5 (.mv (tm 43))] [0, 2, 5] []
abbrev f51r7 : Pc := .reg [
 Qd 0 44 (.mv (tm 5)),
 Qd 1 45 (.lenL (tm 44)),
 Qd 2 46 (.mv (kz 0))] [0, 2, 5, 45, 46] []
abbrev f51r8 : Pc := .reg [
 Qd 0 47 (.bin .lss (tm 46) (tm 45))] [0, 2, 5, 45, 46, 47] []
abbrev f51r9 : Pc := .reg [
 Qd 0 48 (.mv (tm 46)),
 Qd 1 6 (.mv (tm 48))] [0, 2, 5, 6, 45, 46] []
abbrev f51r10 : Pc := .reg [
 Qd 0 49 (.mv (tm 5)),
 Qd 1 50 (.mv (tm 6)),
 Qd 2 51 (.mv (tm 0)),
 Qd 3 52 (.mv (tm 6)),
 Qd 4 53 (.call 85 [(tm 51), (tm 52)]),
 Qd 5 54 (.ixS 1 (tm 49) (tm 50)),
 Qn 6 (.store 1 (tm 54) (tm 53))] [0, 2, 5, 45, 46] []
abbrev f51r11 : Pc := .reg [
 Qd 0 55 (.bin .add (tm 46) (kz 1)),
 Qd 1 46 (.mv (tm 55))] [0, 2, 5, 45, 46] []
def f51l0 : Pc := (.seq f51r8 (.seq (.cond (tm 47) .skip (.exit 0)) (.seq (.block 1 (.seq f51r9 f51r10)) f51r11)))
theorem f51l0e (C : Cfg) (s : St) : evL C f51l0 s = evL C (.seq f51r8 (.seq (.cond (tm 47) .skip (.exit 0)) (.seq (.block 1 (.seq f51r9 f51r10)) f51r11))) s := rfl
abbrev f51r12 : Pc := .reg [
 Qd 0 56 (.mv (tm 5)),
 Qd 1 57 (.ixS 1 (tm 56) (kz 1)),
 Qd 2 58 (.load false 1 (tm 57)),
 Qd 3 59 (.mv (tm 5)),
 Qd 4 60 (.ixS 1 (tm 59) (kz 2)),
 Qd 5 61 (.load false 1 (tm 60)),
 Qd 6 62 (.mv (tm 5)),
 Qd 7 63 (.ixS 1 (tm 62) (kz 3)),
 Qd 8 64 (.load false 1 (tm 63)),
 Qd 9 65 (.mv (tm 5)),
 Qd 10 66 (.ixS 1 (tm 65) (kz 4)),
 Qd 11 67 (.load false 1 (tm 66)),
 Qd 12 68 (.mv (tm 5)),
 Qd 13 69 (.ixS 1 (tm 68) (kz 5)),
 Qd 14 70 (.load false 1 (tm 69)),
 Qd 15 71 (.mv (tm 5)),
 Qd 16 72 (.ixS 1 (tm 71) (kz 6)),
 Qd 17 73 (.load false 1 (tm 72)),
 Qd 18 74 (.mv (tm 5)),
 Qd 19 75 (.ixS 1 (tm 74) (kz 7)),
 Qd 20 76 (.load false 1 (tm 75)),
 Qd 21 77 (.mv (tm 5)),
 Qd 22 78 (.ixS 1 (tm 77) (kz 8)),
 Qd 23 79 (.load false 1 (tm 78)),
 Qd 24 80 (.mv (tm 5)),
 Qd 25 81 (.ixS 1 (tm 80) (kz 9)),
 Qd 26 82 (.load false 1 (tm 81)),
 Qd 27 83 (.mv (tm 5)),
 Qd 28 84 (.ixS 1 (tm 83) (kz 10)),
 Qd 29 85 (.load false 1 (tm 84)),
 Qd 30 86 (.build [(.t (.i .i64 0)), (.t (.i .i64 0)), (.t (.i .i64 0)), (.t (.i .i64 0)), (.t (.i .i64 0)), (.t (.i .i64 0)), (.t (.i .i64 0)), (.t (.i .i64 0)), (.t (.i .i64 0)), (.t (.i .i64 0)), .nl] [(0, 1, (tm 58)), (1, 1, (tm 61)), (2, 1, (tm 64)), (3, 1, (tm 67)), (4, 1, (tm 70)), (5, 1, (tm 73)), (6, 1, (tm 76)), (7, 1, (tm 79)), (8, 1, (tm 82)), (9, 1, (tm 85))]),
 Qd 31 7 (.alloc 95 [(.t (.i .i64 0)), (.t (.i .i64 0)), (.t (.i .i64 0)), (.t (.i .i64 0)), (.t (.i .i64 0)), (.t (.i .i64 0)), (.t (.i .i64 0)), (.t (.i .i64 0)), (.t (.i .i64 0)), (.t (.i .i64 0)), .nl]),
 Qn 32 (.store 11 (tm 7) (tm 86))] [2, 5, 7] []
abbrev f51r13 : Pc := .reg [
 Qd 0 87 (.mv (tm 5)),
 Qd 1 88 (.sls 1 (tm 87) (some (kz 12)) none),
 Qd 2 89 (.lenL (tm 88)),
 Qd 3 90 (.mv (kz 0))] [2, 5, 7, 88, 89, 90] []
abbrev f51r14 : Pc := .reg [
 Qd 0 91 (.bin .lss (tm 90) (tm 89))] [2, 5, 7, 88, 89, 90, 91] []
abbrev f51r15 : Pc := .reg [
 Qd 0 92 (.ixS 1 (tm 88) (tm 90)),
 Qd 1 93 (.load false 1 (tm 92)),
 Qd 2 9 (.mv (tm 93))] [2, 5, 7, 9, 88, 89, 90] []
abbrev f51r16 : Pc := .reg [
 Qd 0 94 (.fad 10 (tm 7)),
 Qd 1 95 (.load false 1 (tm 94)),
 Qd 2 96 (.mv (tm 9)),
 Qd 3 97 (.callq 87 [(tm 96)]),
 Qd 4 98 (.bslF 1 [(tm 97)]),
 Qd 5 99 (.app 3 1 8 (tm 95) (tm 98)),
 Qd 6 100 (.fad 10 (tm 7)),
 Qn 7 (.store 1 (tm 100) (tm 99))] [2, 5, 7, 88, 89, 90] []
abbrev f51r17 : Pc := .reg [
 Qd 0 101 (.bin .add (tm 90) (kz 1)),
 Qd 1 90 (.mv (tm 101))] [2, 5, 7, 88, 89, 90] []
def f51l1 : Pc := (.seq f51r14 (.seq (.cond (tm 91) .skip (.exit 2)) (.seq (.block 3 (.seq f51r15 f51r16)) f51r17)))
theorem f51l1e (C : Cfg) (s : St) : evL C f51l1 s = evL C (.seq f51r14 (.seq (.cond (tm 91) .skip (.exit 2)) (.seq (.block 3 (.seq f51r15 f51r16)) f51r17))) s := rfl
abbrev f51r18 : Pc := .reg [
 Qd 0 102 (.mv (tm 5)),
 Qd 1 103 (.ixS 1 (tm 102) (kz 11)),
 Qd 2 104 (.load false 1 (tm 103)),
 Qd 3 105 (.fad 10 (tm 7)),
 Qd 4 106 (.load false 1 (tm 105)),
 Qd 5 107 (.lenL (tm 106)),
 Qd 6 108 (.bin .neq (tm 104) (tm 107)),
 Qd 7 109 (.mv (tm 108)),
 Gf 8 110 109 (.load true 11 (tm 7)),
 Gf 9 111 109 (.callq 88 [(tm 110)]),
 Gf 10 112 109 (.un .not (tm 111)),
 Qd 11 113 (.pick (tm 109) kT (tm 112))] [2, 7, 113] [43]
abbrev f51r19 : Pc := .reg [
 Qd 0 114 (.build [(.t (.i .i64 0)), (.t (.i .i64 0)), (.t (.i .i64 0)), (.t (.i .i64 0)), (.t (.i .i64 0)), (.t (.i .i64 0)), (.t (.i .i64 0)), (.t (.i .i64 0)), (.t (.i .i64 0)), (.t (.i .i64 0)), .nl] []),
 Qn 1 (.store 11 (tm 2) (tm 114)),
 Qd 2 3 (.mv (kz 2))] [2, 3] [7]
abbrev f51r20 : Pc := .reg [
 Qd 0 115 (.load true 11 (tm 7)),
 Qn 1 (.store 11 (tm 2) (tm 115)),
 Qd 2 3 (.mv (kz 0))] [2, 3] [7]
abbrev f51b : Pc := (.seq f51r0 (.seq (.seq f51r1 (.cond (tm 26) (.seq f51r2 .ret) .skip)) (.seq f51r3 (.seq (.seq f51r4 (.cond (tm 40) (.seq f51r5 .ret) .skip)) (.seq f51r6 (.seq (.seq f51r7 (.block 0 (.loop f51l0))) (.seq f51r12 (.seq (.seq f51r13 (.block 2 (.loop f51l1))) (.seq (.seq f51r18 (.cond (tm 113) (.seq f51r19 .ret) .skip)) (.seq f51r20 .ret))))))))))
abbrev f51 : Pfn := ⟨1, 116, [.cell 2 true 11, .tmp 3], f51b⟩
def f51K : Array (List Nat) := #[[0, 2], [0, 2, 26], [2, 3], [0, 2, 4], [0, 2, 4, 40], [2, 3], [0, 2, 5], [0, 2, 5, 45, 46], [0, 2, 5, 45, 46, 47], [0, 2, 5, 6, 45, 46], [0, 2, 5, 45, 46], [0, 2, 5, 45, 46], [2, 5, 7], [2, 5, 7, 88, 89, 90], [2, 5, 7, 88, 89, 90, 91], [2, 5, 7, 9, 88, 89, 90], [2, 5, 7, 88, 89, 90], [2, 5, 7, 88, 89, 90], [2, 7, 113], [2, 3], [2, 3]]
def f51H : Array (List Nat) := #[[], [], [], [], [], [], [], [], [], [], [], [], [], [], [], [], [], [], [43], [7], [7]]
def f51A : Ann := ⟨fun r => f51K.getD r [], fun r => f51H.getD r [], fun r i => ([] : List (Nat × Nat)).contains (r, i)⟩
theorem f51C : compF Go.Proofs.Tryz.prog f51A 51 = some f51 := by kernel_rfl

abbrev f52r0 : Pc := .reg [
 Qd 0 3 (.box 95 11 (tm 1))] [0, 3] []
abbrev f52r1 : Pc := .reg [
 Qd 0 5 (.fad 0 (tm 3)),
 Qd 1 6 (.load false 1 (tm 5)),
 Qd 2 7 (.bin .neq (tm 6) (kz 2)),
 Qd 3 8 (.mv (tm 7)),
 Gf 4 9 8 (.fad 4 (tm 3)),
 Gf 5 10 8 (.load false 1 (tm 9)),
 Gf 6 11 8 (.bin .neq (tm 10) (kz 1)),
 Qd 7 12 (.pick (tm 8) kT (tm 11)),
 Qd 8 13 (.mv (tm 12)),
 Gf 9 14 13 (.fad 5 (tm 3)),
 Gf 10 15 13 (.load false 1 (tm 14)),
 Gf 11 16 13 (.mv (tm 0)),
 Gf 12 17 13 (.nchk (tm 16)),
 Gf 13 18 13 (.fad 11 (tm 17)),
 Gf 14 19 13 (.load false 1 (tm 18)),
 Gf 15 20 13 (.bin .neq (tm 15) (tm 19)),
 Qd 16 21 (.pick (tm 13) kT (tm 20)),
 Qd 17 22 (.mv (tm 21)),
 Gf 18 23 22 (.fad 10 (tm 3)),
 Gf 19 24 22 (.load false 1 (tm 23)),
 Gf 20 25 22 (.lenL (tm 24)),
 Gf 21 26 22 (.mv (tm 0)),
 Gf 22 27 22 (.nchk (tm 26)),
 Gf 23 28 22 (.fad 0 (tm 27)),
 Gf 24 29 22 (.fad 0 (tm 28)),
 Gf 25 30 22 (.load false 1 (tm 29)),
 Gf 26 31 22 (.bin .neq (tm 25) (tm 30)),
 Qd 27 32 (.pick (tm 22) kT (tm 31)),
 Qd 28 33 (.mv (tm 32)),
 Gf 29 34 33 (.mv (tm 0)),
 Gf 30 35 33 (.nchk (tm 34)),
 Gf 31 36 33 (.fad 11 (tm 35)),
 Gf 32 37 33 (.load false 1 (tm 36)),
 Gf 33 38 33 (.mv (tm 0)),
 Gf 34 39 33 (.nchk (tm 38)),
 Gf 35 40 33 (.fad 0 (tm 39)),
 Gf 36 41 33 (.fad 1 (tm 40)),
 Gf 37 42 33 (.load false 1 (tm 41)),
 Gf 38 43 33 (.lenL (tm 42)),
 Gf 39 44 33 (.bin .geq (tm 37) (tm 43)),
 Qd 40 45 (.pick (tm 33) kT (tm 44))] [0, 3, 45] []
abbrev f52r2 : Pc := .reg [
 Qd 0 46 (.mv (tm 0)),
 Qd 1 47 (.nchk (tm 46)),
 Qd 2 48 (.fad 12 (tm 47)),
 Qd 3 49 (.load false 1 (tm 48)),
 Qd 4 50 (.mkfn 90 [(tm 3)]),
 Qd 5 51 (.call 89 [(tm 49), (tm 50)]),
 Qd 6 4 (.mv (tm 51))] [0, 3, 4] []
abbrev f52r3 : Pc := .reg [
 Qd 0 52 (.mv (tm 4)),
 Qd 1 53 (.bin .lss (tm 52) (kz 0)),
 Qd 2 54 (.mv (tm 53)),
 Gf 3 55 54 (.mv (tm 0)),
 Gf 4 56 54 (.nchk (tm 55)),
 Gf 5 57 54 (.fad 14 (tm 56)),
 Gf 6 58 54 (.load false 1 (tm 57)),
 Gf 7 59 54 (.mv (tm 4)),
 Gf 8 60 54 (.ixS 1 (tm 58) (tm 59)),
 Gf 9 61 54 (.load false 1 (tm 60)),
 Qd 10 62 (.pick (tm 54) kT (tm 61))] [0, 3, 4, 62] []
abbrev f52r4 : Pc := .reg [
 Qd 0 63 (.mv (tm 0)),
 Qd 1 64 (.nchk (tm 63)),
 Qd 2 65 (.fad 13 (tm 64)),
 Qd 3 66 (.load false 1 (tm 65)),
 Qd 4 67 (.mv (tm 4)),
 Qd 5 68 (.mv (tm 0)),
 Qd 6 69 (.nchk (tm 68)),
 Qd 7 70 (.fad 14 (tm 69)),
 Qd 8 71 (.load false 1 (tm 70)),
 Qd 9 72 (.mv (tm 4)),
 Qd 10 73 (.fad 10 (tm 3)),
 Qd 11 74 (.load false 1 (tm 73)),
 Qd 12 75 (.ixS 1 (tm 66) (tm 67)),
 Qn 13 (.store 1 (tm 75) (tm 74)),
 Qd 14 76 (.ixS 1 (tm 71) (tm 72)),
 Qn 15 (.store 1 (tm 76) kT)] [0] []
abbrev f52r5 : Pc := .reg [
 Qd 0 77 (.mv (tm 0)),
 Qd 1 78 (.call 46 [(tm 77)])] [] []
abbrev f52b : Pc := (.seq f52r0 (.seq (.seq f52r1 (.cond (tm 45) .ret .skip)) (.seq f52r2 (.seq (.seq f52r3 (.cond (tm 62) .ret .skip)) (.seq f52r4 f52r5)))))
abbrev f52 : Pfn := ⟨2, 79, [], f52b⟩
def f52K : Array (List Nat) := #[[0, 3], [0, 3, 45], [0, 3, 4], [0, 3, 4, 62], [0], []]
def f52H : Array (List Nat) := #[[], [], [], [], [], []]
def f52A : Ann := ⟨fun r => f52K.getD r [], fun r => f52H.getD r [], fun r i => ([] : List (Nat × Nat)).contains (r, i)⟩
theorem f52C : compF Go.Proofs.Tryz.prog f52A 52 = some f52 := by kernel_rfl

abbrev f53r0 : Pc := .reg [
 Qd 0 5 (.box 41 2 (tm 0)),
 Qd 1 6 (.box 50 2 (tm 1)),
 Qd 2 9 (.box 95 11 (tm 4)),
 Qd 3 10 (.nilv 176 5),
 Qd 4 11 (.alloc 95 [(.t (.i .i64 0)), (.t (.i .i64 0)), (.t (.i .i64 0)), (.t (.i .i64 0)), (.t (.i .i64 0)), (.t (.i .i64 0)), (.t (.i .i64 0)), (.t (.i .i64 0)), (.t (.i .i64 0)), (.t (.i .i64 0)), .nl]),
 Qd 5 12 (.mv kF)] [2, 3, 5, 6, 9, 11] [10]
abbrev f53r1 : Pc := .reg [
 Qd 0 17 (.load true 2 (tm 5)),
 Qd 1 18 (.load true 2 (tm 6)),
 Qd 2 19 (.mv (tm 2)),
 Qd 3 20 (.load true 11 (tm 9)),
 Qd 4 21 (.call 91 [(tm 17), (tm 18), (tm 19), (tm 20)]),
 Qd 5 22 (.un .not (tm 21))] [2, 3, 5, 6, 9, 11, 22] []
abbrev f53r2 : Pc := .reg [
 Qd 0 23 (.mv (tm 3)),
 Qd 1 24 (.build [(.t (.i .i64 0)), (.t (.i .i64 0)), (.t (.i .i64 0)), (.t (.i .i64 0)), (.t (.i .i64 0)), (.t (.i .i64 0)), (.t (.i .i64 0)), (.t (.i .i64 0)), (.t (.i .i64 0)), (.t (.i .i64 0)), .nl] []),
 Qd 2 10 (.mv (tm 23)),
 Qn 3 (.store 11 (tm 11) (tm 24)),
 Qd 4 12 (.mv kF)] [10, 11, 12] [5, 6, 9]
abbrev f53r3 : Pc := .reg [
 Qd 0 25 (.load true 11 (tm 9)),
 Qd 1 13 (.alloc 95 [(.t (.i .i64 0)), (.t (.i .i64 0)), (.t (.i .i64 0)), (.t (.i .i64 0)), (.t (.i .i64 0)), (.t (.i .i64 0)), (.t (.i .i64 0)), (.t (.i .i64 0)), (.t (.i .i64 0)), (.t (.i .i64 0)), .nl]),
 Qn 2 (.store 11 (tm 13) (tm 25))] [2, 3, 5, 6, 9, 11, 13] []
abbrev f53r4 : Pc := .reg [
 Qd 0 26 (.mv (tm 2)),
 Qd 1 27 (.fad 1 (tm 9)),
 Qd 2 28 (.loadS [9] false 1 (tm 27)),
 Qd 3 29 (.fad 0 (tm 6)),
 Qd 4 30 (.loadS [6] false 1 (tm 29)),
 Qd 5 31 (.fad 0 (tm 13)),
 Qn 6 (.storeS [13] 1 (tm 31) (kz 3)),
 Qd 7 32 (.fad 1 (tm 13)),
 Qn 8 (.storeS [13] 1 (tm 32) (tm 26)),
 Qd 9 33 (.fad 2 (tm 13)),
 Qn 10 (.storeS [13] 1 (tm 33) (tm 28)),
 Qd 11 34 (.fad 9 (tm 13)),
 Qn 12 (.store 1 (tm 34) (tm 30)),
 Qd 13 35 (.fad 10 (tm 13)),
 Qn 14 (.store 1 (tm 35) (.c .nl))] [2, 3, 5, 6, 9, 11, 13] []
abbrev f53r5 : Pc := .reg [
 Qd 0 36 (.fad 9 (tm 9)),
 Qd 1 37 (.load false 1 (tm 36)),
 Qd 2 38 (.fad 0 (tm 6)),
 Qd 3 39 (.load false 1 (tm 38)),
 Qd 4 40 (.bin .neq (tm 37) (tm 39)),
 Qd 5 41 (.mv (tm 40)),
 Gf 6 42 41 (.load true 2 (tm 6)),
 Gf 7 43 41 (.fad 8 (tm 9)),
 Gf 8 44 41 (.load false 1 (tm 43)),
 Gf 9 45 41 (.mv (tm 2)),
 Gf 10 46 41 (.call 92 [(tm 42), (tm 44), (tm 45)]),
 Gf 11 47 41 (.un .not (tm 46)),
 Qd 12 48 (.pick (tm 41) kT (tm 47))] [3, 5, 9, 11, 13, 48] [6]
abbrev f53r6 : Pc := .reg [
 Qd 0 49 (.mv (tm 3)),
 Qd 1 50 (.load true 11 (tm 13)),
 Qd 2 10 (.mv (tm 49)),
 Qn 3 (.store 11 (tm 11) (tm 50)),
 Qd 4 12 (.mv kT)] [10, 11, 12] [5, 9, 13]
abbrev f53r7 : Pc := .reg [
 Qd 0 51 (.fad 4 (tm 9)),
 Qd 1 52 (.load false 1 (tm 51)),
 Qd 2 53 (.fad 5 (tm 9)),
 Qd 3 54 (.load false 1 (tm 53)),
 Qd 4 55 (.fad 6 (tm 9)),
 Qd 5 56 (.load false 1 (tm 55)),
 Qd 6 57 (.fad 7 (tm 9)),
 Qd 7 58 (.load false 1 (tm 57)),
 Qd 8 59 (.build [(.t (.i .i64 0)), (.t (.i .i64 0)), (.t (.i .i64 0)), (.t (.i .i64 0))] [(0, 1, (tm 52)), (1, 1, (tm 54)), (2, 1, (tm 56)), (3, 1, (tm 58))]),
 Qd 9 14 (.alloc 142 [(.t (.i .i64 0)), (.t (.i .i64 0)), (.t (.i .i64 0)), (.t (.i .i64 0))]),
 Qn 10 (.store 4 (tm 14) (tm 59))] [3, 5, 9, 11, 13, 14] []
abbrev f53r8 : Pc := .reg [
 Qd 0 61 (.mv (tm 3)),
 Qd 1 62 (.load true 4 (tm 14)),
 Qd 2 63 (.call 93 [(tm 61), (tm 62)]),
 Qd 3 60 (.mv (tm 63)),
 Qd 4 64 (.ext 0 (tm 60)),
 Qd 5 65 (.ext 1 (tm 60)),
 Qd 6 15 (.mv (tm 64)),
 Qd 7 16 (.mv (tm 65))] [3, 5, 9, 11, 13, 14, 15, 16] []
abbrev f53r9 : Pc := .reg [
 Qd 0 66 (.mv (tm 16)),
 Qd 1 67 (.un .not (tm 66))] [3, 5, 9, 11, 13, 14, 15, 67] []
abbrev f53r10 : Pc := .reg [
 Qd 0 69 (.fad 1 (tm 5)),
 Qd 1 70 (.load false 1 (tm 69)),
 Qd 2 71 (.fad 5 (tm 9)),
 Qd 3 72 (.load false 1 (tm 71)),
 Qd 4 73 (.ixS 3 (tm 70) (tm 72)),
 Qd 5 74 (.fad 1 (tm 73)),
 Qd 6 75 (.load false 1 (tm 74)),
 Qd 7 76 (.fad 8 (tm 9)),
 Qd 8 77 (.load false 1 (tm 76)),
 Qd 9 78 (.ixS 2 (tm 75) (tm 77)),
 Qd 10 79 (.load true 2 (tm 78)),
 Qd 11 80 (.fad 10 (tm 9)),
 Qd 12 81 (.load false 1 (tm 80)),
 Qd 13 82 (.callq 94 [(tm 79), (tm 81)]),
 Qd 14 68 (.mv (tm 82)),
 Qd 15 83 (.ext 0 (tm 68)),
 Qd 16 84 (.ext 1 (tm 68)),
 Qd 17 15 (.mv (tm 83))] [3, 11, 13, 14, 15] [5, 9]
abbrev f53r11 : Pc := .reg [
 Qd 0 86 (.mv (tm 3)),
 Qd 1 87 (.load true 4 (tm 14)),
 Qd 2 88 (.mv (tm 15)),
 Qd 3 89 (.call 95 [(tm 86), (tm 87), (tm 88)]),
 Qd 4 85 (.mv (tm 89)),
 Qd 5 90 (.ext 0 (tm 85)),
 Qd 6 91 (.ext 1 (tm 85)),
 Qd 7 3 (.mv (tm 90))] [3, 11, 13, 15] [14]
abbrev f53r12 : Pc := .reg [
 Qd 0 92 (.mv (tm 15)),
 Qd 1 93 (.fad 0 (tm 13)),
 Qn 2 (.store 1 (tm 93) (kz 2)),
 Qd 3 94 (.fad 10 (tm 13)),
 Qn 4 (.store 1 (tm 94) (tm 92))] [3, 11, 13] [5, 9, 14]
abbrev f53r13 : Pc := .reg [
 Qd 0 95 (.mv (tm 3)),
 Qd 1 96 (.load true 11 (tm 13)),
 Qd 2 10 (.mv (tm 95)),
 Qn 3 (.store 11 (tm 11) (tm 96)),
 Qd 4 12 (.mv kT)] [10, 11, 12] [13]
abbrev f53b : Pc := (.seq f53r0 (.seq (.seq f53r1 (.cond (tm 22) (.seq f53r2 .ret) .skip)) (.seq f53r3 (.seq f53r4 (.seq (.seq f53r5 (.cond (tm 48) (.seq f53r6 .ret) .skip)) (.seq f53r7 (.seq f53r8 (.seq (.seq f53r9 (.cond (tm 67) (.seq f53r10 f53r11) .skip)) (.seq f53r12 (.seq f53r13 .ret))))))))))
abbrev f53 : Pfn := ⟨5, 97, [.tmp 10, .cell 11 true 11, .tmp 12], f53b⟩
def f53K : Array (List Nat) := #[[2, 3, 5, 6, 9, 11], [2, 3, 5, 6, 9, 11, 22], [10, 11, 12], [2, 3, 5, 6, 9, 11, 13], [2, 3, 5, 6, 9, 11, 13], [3, 5, 9, 11, 13, 48], [10, 11, 12], [3, 5, 9, 11, 13, 14], [3, 5, 9, 11, 13, 14, 15, 16], [3, 5, 9, 11, 13, 14, 15, 67], [3, 11, 13, 14, 15], [3, 11, 13, 15], [3, 11, 13], [10, 11, 12]]
def f53H : Array (List Nat) := #[[10], [], [5, 6, 9], [], [], [6], [5, 9, 13], [], [], [], [5, 9], [14], [5, 9, 14], [13]]
def f53A : Ann := ⟨fun r => f53K.getD r [], fun r => f53H.getD r [], fun r i => ([(4, 2002), (4, 12002), (4, 2004), (4, 9004), (4, 2006), (4, 16006), (4, 2008), (4, 16008), (4, 2010), (4, 16010)] : List (Nat × Nat)).contains (r, i)⟩
theorem f53C : compF Go.Proofs.Tryz.prog f53A 53 = some f53 := by kernel_rfl

abbrev f54r0 : Pc := .reg [
 Qd 0 4 (.nilv 9 1)] [0, 1] [4, 14]
abbrev f54r1 : Pc := .reg [
 Qd 0 5 (.mv (tm 1)),
 Qd 1 6 (.bin .lss (tm 5) (kz 0)),
 Qd 2 7 (.mv (tm 6)),
 Gf 3 8 7 (.mv (tm 1)),
 Gf 4 9 7 (.mv (tm 0)),
 Gf 5 10 7 (.lenL (tm 9)),
 Gf 6 11 7 (.bin .geq (tm 8) (tm 10)),
 Qd 7 12 (.pick (tm 7) kT (tm 11))] [0, 1, 12] []
abbrev f54r2 : Pc := .reg [
 Qd 0 13 (.mv (tm 0)),
 Qd 1 14 (.call 57 [(tm 13)]),
 Qd 2 4 (.mv (tm 14))] [4] []
abbrev f54r3 : Pc := .reg [
 Qd 0 15 (.mv (tm 0)),
 Qd 1 16 (.mv (tm 0)),
 Qd 2 17 (.mv (tm 1)),
 Qd 3 18 (.ixS 1 (tm 16) (tm 17)),
 Qd 4 19 (.load false 1 (tm 18)),
 Qd 5 20 (.call 83 [(tm 15), (tm 19)]),
 Qd 6 4 (.mv (tm 20))] [4] []
abbrev f54b : Pc := (.seq f54r0 (.seq (.seq f54r1 (.cond (tm 12) (.seq f54r2 .ret) .skip)) (.seq f54r3 .ret)))
abbrev f54 : Pfn := ⟨2, 21, [.tmp 4], f54b⟩
def f54K : Array (List Nat) := #[[0, 1], [0, 1, 12], [4], [4]]
def f54H : Array (List Nat) := #[[4, 14], [], [], []]
def f54A : Ann := ⟨fun r => f54K.getD r [], fun r => f54H.getD r [], fun r i => ([] : List (Nat × Nat)).contains (r, i)⟩
theorem f54C : compF Go.Proofs.Tryz.prog f54A 54 = some f54 := by kernel_rfl

abbrev f55r0 : Pc := .reg [
 Qd 0 3 (.box 50 2 (tm 0)),
 Qd 1 6 (.alloc 50 [(.t (.i .i64 0)), .nl]),
 Qd 2 7 (.mv (kz 0))] [1, 2, 3, 6] []
abbrev f55r1 : Pc := .reg [
 Qd 0 10 (.load true 2 (tm 3)),
 Qd 1 11 (.mv (tm 1)),
 Qd 2 12 (.mv (tm 2)),
 Qd 3 13 (.call 96 [(tm 10), (tm 11), (tm 12)]),
 Qd 4 14 (.un .not (tm 13)),
 Qd 5 9 (.mv (tm 14))] [1, 2, 3, 6, 9] []
abbrev f55r2 : Pc := .reg [
 Qd 0 15 (.load true 2 (tm 3)),
 Qn 1 (.store 2 (tm 6) (tm 15)),
 Qd 2 7 (.mv (kz 1))] [6, 7] [3]
abbrev f55r3 : Pc := .reg [
 Qd 0 17 (.load true 2 (tm 3)),
 Qd 1 18 (.mv (tm 1)),
 Qd 2 19 (.mv (tm 2)),
 Qd 3 20 (.call 92 [(tm 17), (tm 18), (tm 19)]),
 Qd 4 16 (.mv (tm 20))] [1, 2, 3, 6, 16] []
abbrev f55r4 : Pc := .reg [
 Qd 0 21 (.load true 2 (tm 3)),
 Qn 1 (.store 2 (tm 6) (tm 21)),
 Qd 2 7 (.mv (kz 5))] [6, 7] [3]
abbrev f55r5 : Pc := .reg [
 Qd 0 22 (.fad 1 (tm 3)),
 Qd 1 23 (.load false 1 (tm 22)),
 Qd 2 24 (.mv (tm 1)),
 Qd 3 25 (.ixS 1 (tm 23) (tm 24)),
 Qd 4 26 (.load false 1 (tm 25)),
 Qd 5 27 (.call 97 [(tm 26)]),
 Qd 6 28 (.mv (tm 2)),
 Qd 7 29 (.bslT 1 [(tm 28)]),
 Qd 8 30 (.app 3 1 8 (tm 27) (tm 29)),
 Qd 9 8 (.mv (tm 30))] [1, 3, 6, 8] []
abbrev f55r6 : Pc := .reg [
 Qd 0 31 (.mv (tm 8)),
 Qd 1 32 (.call 98 [(tm 31)])] [1, 3, 6, 8] []
abbrev f55r7 : Pc := .reg [
 Qd 0 33 (.load true 2 (tm 3)),
 Qd 1 34 (.mv (tm 1)),
 Qd 2 35 (.mv (tm 8)),
 Qd 3 36 (.call 99 [(tm 33), (tm 34), (tm 35)]),
 Qn 4 (.store 2 (tm 6) (tm 36)),
 Qd 5 7 (.mv (kz 0))] [6, 7] [3]
abbrev f55b : Pc := (.seq f55r0 (.seq (.block 0 (.seq f55r1 (.cond (tm 9) (.seq f55r2 .ret) (.seq f55r3 (.cond (tm 16) (.seq f55r4 .ret) .skip))))) (.seq f55r5 (.seq f55r6 (.seq f55r7 .ret)))))
abbrev f55 : Pfn := ⟨3, 37, [.cell 6 true 2, .tmp 7], f55b⟩
def f55K : Array (List Nat) := #[[1, 2, 3, 6], [1, 2, 3, 6, 9], [6, 7], [1, 2, 3, 6, 16], [6, 7], [1, 3, 6, 8], [1, 3, 6, 8], [6, 7]]
def f55H : Array (List Nat) := #[[], [], [3], [], [3], [], [], [3]]
def f55A : Ann := ⟨fun r => f55K.getD r [], fun r => f55H.getD r [], fun r i => ([] : List (Nat × Nat)).contains (r, i)⟩
theorem f55C : compF Go.Proofs.Tryz.prog f55A 55 = some f55 := by kernel_rfl

abbrev f56r0 : Pc := .reg [
 Qd 0 3 (.box 50 2 (tm 0)),
 Qd 1 5 (.box 3 1 (tm 2)),
 Qd 2 6 (.alloc 50 [(.t (.i .i64 0)), .nl]),
 Qd 3 7 (.mv (kz 0))] [1, 3, 5, 6] []
abbrev f56r1 : Pc := .reg [
 Qd 0 9 (.load true 2 (tm 3)),
 Qd 1 10 (.mv (tm 1)),
 Qd 2 11 (.load false 1 (tm 5)),
 Qd 3 12 (.call 96 [(tm 9), (tm 10), (tm 11)]),
 Qd 4 13 (.un .not (tm 12)),
 Qd 5 8 (.mv (tm 13))] [1, 3, 5, 6, 8] []
abbrev f56r2 : Pc := .reg [
 Qd 0 14 (.load true 2 (tm 3)),
 Qn 1 (.store 2 (tm 6) (tm 14)),
 Qd 2 7 (.mv (kz 1))] [6, 7] [3]
abbrev f56r3 : Pc := .reg [
 Qd 0 16 (.load true 2 (tm 3)),
 Qd 1 17 (.mv (tm 1)),
 Qd 2 18 (.load false 1 (tm 5)),
 Qd 3 19 (.call 92 [(tm 16), (tm 17), (tm 18)]),
 Qd 4 20 (.un .not (tm 19)),
 Qd 5 15 (.mv (tm 20))] [1, 3, 5, 6, 15] []
abbrev f56r4 : Pc := .reg [
 Qd 0 21 (.load true 2 (tm 3)),
 Qn 1 (.store 2 (tm 6) (tm 21)),
 Qd 2 7 (.mv (kz 4))] [6, 7] [3]
abbrev f56r5 : Pc := .reg [
 Qd 0 23 (.fad 1 (tm 3)),
 Qd 1 24 (.load false 1 (tm 23)),
 Qd 2 25 (.mv (tm 1)),
 Qd 3 26 (.ixS 1 (tm 24) (tm 25)),
 Qd 4 27 (.load false 1 (tm 26)),
 Qd 5 28 (.lenL (tm 27)),
 Qd 6 29 (.bin .eql (tm 28) (kz 1)),
 Qd 7 22 (.mv (tm 29))] [1, 3, 5, 6, 22] []
abbrev f56r6 : Pc := .reg [
 Qd 0 30 (.load true 2 (tm 3)),
 Qn 1 (.store 2 (tm 6) (tm 30)),
 Qd 2 7 (.mv (kz 7))] [6, 7] [3]
abbrev f56r7 : Pc := .reg [
 Qd 0 31 (.loadB true 2 (tm 3)),
 Qd 1 32 (.mv (tm 1)),
 Qd 2 33 (.fad 1 (tm 3)),
 Qd 3 34 (.load false 1 (tm 33)),
 Qd 4 35 (.mv (tm 1)),
 Qd 5 36 (.ixS 1 (tm 34) (tm 35)),
 Qd 6 37 (.load false 1 (tm 36)),
 Qd 7 38 (.callo 97 [(tm 37)]),
 Qd 8 39 (.mkfn 101 [(tm 5)]),
 Qd 9 40 (.callR 100 [(tm 38), (tm 39)]),
 Qd 10 41 (.callR 99 [(tm 31), (tm 32), (tm 40)]),
 Qn 11 (.store 2 (tm 6) (tm 41)),
 Qd 12 7 (.mv (kz 0))] [6, 7] [3]
abbrev f56b : Pc := (.seq f56r0 (.seq (.block 0 (.seq f56r1 (.cond (tm 8) (.seq f56r2 .ret) (.seq f56r3 (.cond (tm 15) (.seq f56r4 .ret) (.seq f56r5 (.cond (tm 22) (.seq f56r6 .ret) .skip))))))) (.seq f56r7 .ret)))
abbrev f56 : Pfn := ⟨3, 42, [.cell 6 true 2, .tmp 7], f56b⟩
def f56K : Array (List Nat) := #[[1, 3, 5, 6], [1, 3, 5, 6, 8], [6, 7], [1, 3, 5, 6, 15], [6, 7], [1, 3, 5, 6, 22], [6, 7], [6, 7]]
def f56H : Array (List Nat) := #[[], [], [3], [], [3], [], [3], [3]]
def f56A : Ann := ⟨fun r => f56K.getD r [], fun r => f56H.getD r [], fun r i => ([(7, 7), (7, 1009), (7, 1010), (7, 0)] : List (Nat × Nat)).contains (r, i)⟩
theorem f56C : compF Go.Proofs.Tryz.prog f56A 56 = some f56 := by kernel_rfl

abbrev f57r0 : Pc := .reg [
 Qd 0 2 (.nilv 9 1)] [0] [2, 5, 7]
abbrev f57r1 : Pc := .reg [
 Qd 0 3 (.mv (tm 0)),
 Qd 1 4 (.isnilS false (tm 3))] [0, 4] []
abbrev f57r2 : Pc := .reg [
 Qd 0 2 (.nilv 9 1)] [2] []
abbrev f57r3 : Pc := .reg [
 Qd 0 5 (.bslO 9 1 []),
 Qd 1 6 (.mv (tm 0)),
 Qd 2 7 (.app 9 1 16 (tm 5) (tm 6)),
 Qd 3 2 (.mv (tm 7))] [2] []
abbrev f57b : Pc := (.seq f57r0 (.seq (.seq f57r1 (.cond (tm 4) (.seq f57r2 .ret) .skip)) (.seq f57r3 .ret)))
abbrev f57 : Pfn := ⟨1, 8, [.tmp 2], f57b⟩
def f57K : Array (List Nat) := #[[0], [0, 4], [2], [2]]
def f57H : Array (List Nat) := #[[2, 5, 7], [], [], []]
def f57A : Ann := ⟨fun r => f57K.getD r [], fun r => f57H.getD r [], fun r i => ([(3, 0), (3, 0)] : List (Nat × Nat)).contains (r, i)⟩
theorem f57C : compF Go.Proofs.Tryz.prog f57A 57 = some f57 := by kernel_rfl

abbrev f61r0 : Pc := .reg [
 Qd 0 2 (.nilv 3 1),
 Qd 1 3 (.mv kF)] [0] [2, 4, 25]
abbrev f61r1 : Pc := .reg [
 Qd 0 4 (.nilv 3 1)] [0, 4] []
abbrev f61r2 : Pc := .reg [
 Qd 0 9 (.mv (tm 0)),
 Qd 1 10 (.lenL (tm 9)),
 Qd 2 11 (.mv (kz 0))] [4, 9, 10, 11] []
abbrev f61r3 : Pc := .reg [
 Qd 0 12 (.bin .lss (tm 11) (tm 10))] [4, 9, 10, 11, 12] []
abbrev f61r4 : Pc := .reg [
 Qd 0 13 (.ixS 1 (tm 9) (tm 11)),
 Qd 1 14 (.load false 1 (tm 13)),
 Qd 2 6 (.mv (tm 14))] [4, 6, 9, 10, 11] []
abbrev f61r5 : Pc := .reg [
 Qd 0 16 (.mv (tm 6)),
 Qd 1 17 (.call 107 [(tm 16)]),
 Qd 2 15 (.mv (tm 17)),
 Qd 3 18 (.ext 0 (tm 15)),
 Qd 4 19 (.ext 1 (tm 15)),
 Qd 5 7 (.mv (tm 18)),
 Qd 6 8 (.mv (tm 19))] [4, 7, 8, 9, 10, 11] []
abbrev f61r6 : Pc := .reg [
 Qd 0 20 (.mv (tm 8)),
 Qd 1 21 (.un .not (tm 20))] [4, 7, 9, 10, 11, 21] []
abbrev f61r7 : Pc := .reg [
 Qd 0 2 (.nilv 3 1),
 Qd 1 3 (.mv kF)] [2, 3] []
abbrev f61r8 : Pc := .reg [
 Qd 0 22 (.mv (tm 4)),
 Qd 1 23 (.mv (tm 7)),
 Qd 2 24 (.bslT 1 [(tm 23)]),
 Qd 3 25 (.app 3 1 8 (tm 22) (tm 24)),
 Qd 4 4 (.mv (tm 25))] [4, 9, 10, 11] []
abbrev f61r9 : Pc := .reg [
 Qd 0 26 (.bin .add (tm 11) (kz 1)),
 Qd 1 11 (.mv (tm 26))] [4, 9, 10, 11] []
def f61l0 : Pc := (.seq f61r3 (.seq (.cond (tm 12) .skip (.exit 0)) (.seq (.block 1 (.seq f61r4 (.seq f61r5 (.seq (.seq f61r6 (.cond (tm 21) (.seq f61r7 .ret) .skip)) f61r8)))) f61r9)))
theorem f61l0e (C : Cfg) (s : St) : evL C f61l0 s = evL C (.seq f61r3 (.seq (.cond (tm 12) .skip (.exit 0)) (.seq (.block 1 (.seq f61r4 (.seq f61r5 (.seq (.seq f61r6 (.cond (tm 21) (.seq f61r7 .ret) .skip)) f61r8)))) f61r9))) s := rfl
abbrev f61r10 : Pc := .reg [
 Qd 0 27 (.mv (tm 4)),
 Qd 1 2 (.mv (tm 27)),
 Qd 2 3 (.mv kT)] [2, 3] []
abbrev f61b : Pc := (.seq f61r0 (.seq f61r1 (.seq (.seq f61r2 (.block 0 (.loop f61l0))) (.seq f61r10 .ret))))
abbrev f61 : Pfn := ⟨1, 28, [.tmp 2, .tmp 3], f61b⟩
def f61K : Array (List Nat) := #[[0], [0, 4], [4, 9, 10, 11], [4, 9, 10, 11, 12], [4, 6, 9, 10, 11], [4, 7, 8, 9, 10, 11], [4, 7, 9, 10, 11, 21], [2, 3], [4, 9, 10, 11], [4, 9, 10, 11], [2, 3]]
def f61H : Array (List Nat) := #[[2, 4, 25], [], [], [], [], [], [], [], [], [], []]
def f61A : Ann := ⟨fun r => f61K.getD r [], fun r => f61H.getD r [], fun r i => ([] : List (Nat × Nat)).contains (r, i)⟩
theorem f61C : compF Go.Proofs.Tryz.prog f61A 61 = some f61 := by kernel_rfl

abbrev f62r0 : Pc := .reg [
 Qd 0 4 (.mv (.c (.t (.s []))))] [0, 1] []
abbrev f62r1 : Pc := .reg [
 Qd 0 8 (.mv (tm 0)),
 Qd 1 9 (.bin .neq (tm 8) (kz 0))] [0, 1, 9] []
abbrev f62r2 : Pc := .reg [
 Qd 0 10 (.mv (tm 0)),
 Qd 1 11 (.call 63 [(tm 10)]),
 Qd 2 12 (.bin .add (.c (.t (.s [101, 114, 114, 111, 114, 32]))) (tm 11)),
 Qd 3 4 (.mv (tm 12))] [4] []
abbrev f62r3 : Pc := .reg [
 Qd 0 5 (.mv (.c (.t (.s [111, 107]))))] [1, 5] []
abbrev f62r4 : Pc := .reg [
 Qd 0 13 (.mv (tm 1)),
 Qd 1 14 (.lenL (tm 13)),
 Qd 2 15 (.mv (kz 0))] [5, 13, 14, 15] []
abbrev f62r5 : Pc := .reg [
 Qd 0 16 (.bin .lss (tm 15) (tm 14))] [5, 13, 14, 15, 16] []
abbrev f62r6 : Pc := .reg [
 Qd 0 17 (.ixS 1 (tm 13) (tm 15)),
 Qd 1 18 (.load false 1 (tm 17)),
 Qd 2 7 (.mv (tm 18))] [5, 7, 13, 14, 15] []
abbrev f62r7 : Pc := .reg [
 Qd 0 19 (.mv (tm 5)),
 Qd 1 20 (.mv (tm 7)),
 Qd 2 21 (.call 63 [(tm 20)]),
 Qd 3 22 (.bin .add (.c (.t (.s [32]))) (tm 21)),
 Qd 4 23 (.bin .add (tm 19) (tm 22)),
 Qd 5 5 (.mv (tm 23))] [5, 13, 14, 15] []
abbrev f62r8 : Pc := .reg [
 Qd 0 24 (.bin .add (tm 15) (kz 1)),
 Qd 1 15 (.mv (tm 24))] [5, 13, 14, 15] []
def f62l0 : Pc := (.seq f62r5 (.seq (.cond (tm 16) .skip (.exit 0)) (.seq (.block 1 (.seq f62r6 f62r7)) f62r8)))
theorem f62l0e (C : Cfg) (s : St) : evL C f62l0 s = evL C (.seq f62r5 (.seq (.cond (tm 16) .skip (.exit 0)) (.seq (.block 1 (.seq f62r6 f62r7)) f62r8))) s := rfl
abbrev f62r9 : Pc := .reg [
 Qd 0 25 (.mv (tm 5)),
 Qd 1 4 (.mv (tm 25))] [4] []
abbrev f62b : Pc := (.seq f62r0 (.seq (.seq f62r1 (.cond (tm 9) (.seq f62r2 .ret) .skip)) (.seq f62r3 (.seq (.seq f62r4 (.block 0 (.loop f62l0))) (.seq f62r9 .ret)))))
abbrev f62 : Pfn := ⟨2, 26, [.tmp 4], f62b⟩
def f62K : Array (List Nat) := #[[0, 1], [0, 1, 9], [4], [1, 5], [5, 13, 14, 15], [5, 13, 14, 15, 16], [5, 7, 13, 14, 15], [5, 13, 14, 15], [5, 13, 14, 15], [4]]
def f62H : Array (List Nat) := #[[], [], [], [], [], [], [], [], [], []]
def f62A : Ann := ⟨fun r => f62K.getD r [], fun r => f62H.getD r [], fun r i => ([] : List (Nat × Nat)).contains (r, i)⟩
theorem f62C : compF Go.Proofs.Tryz.prog f62A 62 = some f62 := by kernel_rfl

abbrev f64r0 : Pc := .reg [
 Qd 0 2 (.mv (.c (.t (.s []))))] [0] []
abbrev f64r1 : Pc := .reg [
 Qd 0 3 (.nilv 3 1)] [0, 3] []
abbrev f64r2 : Pc := .reg [
 Qd 0 9 (.mv (tm 0)),
 Qd 1 10 (.call 28 [(tm 9)]),
 Qd 2 8 (.mv (tm 10)),
 Qd 3 11 (.ext 0 (tm 8)),
 Qd 4 12 (.ext 1 (tm 8)),
 Qd 5 4 (.mv (tm 11)),
 Qd 6 5 (.mv (tm 12))] [3, 4] []
abbrev f64r3 : Pc := .reg [
 Qd 0 13 (.mv (tm 4)),
 Qd 1 14 (.lenL (tm 13)),
 Qd 2 15 (.mv (kz 0))] [3, 13, 14, 15] []
abbrev f64r4 : Pc := .reg [
 Qd 0 16 (.bin .lss (tm 15) (tm 14))] [3, 13, 14, 15, 16] []
abbrev f64r5 : Pc := .reg [
 Qd 0 17 (.ixS 1 (tm 13) (tm 15)),
 Qd 1 18 (.load false 1 (tm 17)),
 Qd 2 7 (.mv (tm 18))] [3, 7, 13, 14, 15] []
abbrev f64r6 : Pc := .reg [
 Qd 0 19 (.mv (tm 3)),
 Qd 1 20 (.mv (tm 7)),
 Qd 2 21 (.app 3 1 8 (tm 19) (tm 20)),
 Qd 3 3 (.mv (tm 21))] [3, 13, 14, 15] []
abbrev f64r7 : Pc := .reg [
 Qd 0 22 (.bin .add (tm 15) (kz 1)),
 Qd 1 15 (.mv (tm 22))] [3, 13, 14, 15] []
def f64l0 : Pc := (.seq f64r4 (.seq (.cond (tm 16) .skip (.exit 0)) (.seq (.block 1 (.seq f64r5 f64r6)) f64r7)))
theorem f64l0e (C : Cfg) (s : St) : evL C f64l0 s = evL C (.seq f64r4 (.seq (.cond (tm 16) .skip (.exit 0)) (.seq (.block 1 (.seq f64r5 f64r6)) f64r7))) s := rfl
abbrev f64r8 : Pc := .reg [
 Qd 0 23 (.mv (tm 3)),
 Qd 1 24 (.call 62 [(kz 0), (tm 23)]),
 Qd 2 2 (.mv (tm 24))] [2] []
abbrev f64b : Pc := (.seq f64r0 (.seq f64r1 (.seq f64r2 (.seq (.seq f64r3 (.block 0 (.loop f64l0))) (.seq f64r8 .ret)))))
abbrev f64 : Pfn := ⟨1, 25, [.tmp 2], f64b⟩
def f64K : Array (List Nat) := #[[0], [0, 3], [3, 4], [3, 13, 14, 15], [3, 13, 14, 15, 16], [3, 7, 13, 14, 15], [3, 13, 14, 15], [3, 13, 14, 15], [2]]
def f64H : Array (List Nat) := #[[], [], [], [], [], [], [], [], []]
def f64A : Ann := ⟨fun r => f64K.getD r [], fun r => f64H.getD r [], fun r i => ([] : List (Nat × Nat)).contains (r, i)⟩
theorem f64C : compF Go.Proofs.Tryz.prog f64A 64 = some f64 := by kernel_rfl

abbrev f65r0 : Pc := .reg [
 Qd 0 4 (.alloc 112 [(.t (.i .i64 0)), (.t (.i .i64 0)), (.t (.i .i64 0)), (.t (.i .i64 0))]),
 Qd 1 5 (.mv kF)] [0, 1, 4] []
abbrev f65r1 : Pc := .reg [
 Qd 0 12 (.mv (tm 0)),
 Qd 1 13 (.mv (tm 1)),
 Qd 2 14 (.call 69 [(tm 12), (tm 13)]),
 Qd 3 11 (.mv (tm 14)),
 Qd 4 15 (.ext 0 (tm 11)),
 Qd 5 16 (.ext 1 (tm 11)),
 Qd 6 6 (.mv (tm 15)),
 Qd 7 7 (.mv (tm 16))] [4, 6, 7] []
abbrev f65r2 : Pc := .reg [
 Qd 0 17 (.mv (tm 7)),
 Qd 1 18 (.un .not (tm 17)),
 Qd 2 19 (.mv (tm 18)),
 Gf 3 20 19 (.mv (tm 6)),
 Gf 4 21 19 (.lenL (tm 20)),
 Gf 5 22 19 (.bin .eql (tm 21) (kz 0)),
 Qd 6 23 (.pick (tm 19) kT (tm 22))] [4, 6, 23] []
abbrev f65r3 : Pc := .reg [
 Qd 0 24 (.build [(.t (.i .i64 0)), (.t (.i .i64 0)), (.t (.i .i64 0)), (.t (.i .i64 0))] []),
 Qn 1 (.store 4 (tm 4) (tm 24)),
 Qd 2 5 (.mv kF)] [4, 5] []
abbrev f65r4 : Pc := .reg [
 Qd 0 25 (.mv (tm 6)),
 Qd 1 26 (.call 109 [(tm 25), (kz 0)]),
 Qd 2 27 (.mv (tm 6)),
 Qd 3 28 (.call 109 [(tm 27), (kz 1)]),
 Qd 4 8 (.mv (tm 26)),
 Qd 5 9 (.mv (tm 28))] [4, 6, 8, 9] []
abbrev f65r5 : Pc := .reg [
 Qd 0 10 (.mv (kz 65536))] [4, 6, 8, 9, 10] []
abbrev f65r6 : Pc := .reg [
 Qd 0 29 (.mv (tm 9)),
 Qd 1 30 (.bin .geq (tm 29) (kz 0))] [4, 6, 8, 9, 10, 30] []
abbrev f65r7 : Pc := .reg [
 Qd 0 31 (.mv (tm 6)),
 Qd 1 32 (.mv (tm 8)),
 Qd 2 33 (.ixS 1 (tm 31) (tm 32)),
 Qd 3 34 (.load false 1 (tm 33)),
 Qd 4 35 (.mv (tm 6)),
 Qd 5 36 (.mv (tm 9)),
 Qd 6 37 (.ixS 1 (tm 35) (tm 36)),
 Qd 7 38 (.load false 1 (tm 37)),
 Qd 8 39 (.callq 110 [(tm 34), (tm 38)]),
 Qd 9 10 (.mv (tm 39))] [4, 8, 9, 10] []
abbrev f65r8 : Pc := .reg [
 Qd 0 40 (.mv (tm 8)),
 Qd 1 41 (.mv (tm 9)),
 Qd 2 42 (.mv (tm 10)),
 Qd 3 43 (.mv (tm 10)),
 Qd 4 44 (.bin .sub (kz 65536) (tm 43)),
 Qd 5 45 (.build [(.t (.i .i64 0)), (.t (.i .i64 0)), (.t (.i .i64 0)), (.t (.i .i64 0))] [(0, 1, (tm 40)), (1, 1, (tm 41)), (2, 1, (tm 42)), (3, 1, (tm 44))]),
 Qn 6 (.store 4 (tm 4) (tm 45)),
 Qd 7 5 (.mv kT)] [4, 5] []
abbrev f65b : Pc := (.seq f65r0 (.seq f65r1 (.seq (.seq f65r2 (.cond (tm 23) (.seq f65r3 .ret) .skip)) (.seq f65r4 (.seq f65r5 (.seq (.seq f65r6 (.cond (tm 30) f65r7 .skip)) (.seq f65r8 .ret)))))))
abbrev f65 : Pfn := ⟨2, 46, [.cell 4 true 4, .tmp 5], f65b⟩
def f65K : Array (List Nat) := #[[0, 1, 4], [4, 6, 7], [4, 6, 23], [4, 5], [4, 6, 8, 9], [4, 6, 8, 9, 10], [4, 6, 8, 9, 10, 30], [4, 8, 9, 10], [4, 5]]
def f65H : Array (List Nat) := #[[], [], [], [], [], [], [], [], []]
def f65A : Ann := ⟨fun r => f65K.getD r [], fun r => f65H.getD r [], fun r i => ([] : List (Nat × Nat)).contains (r, i)⟩
theorem f65C : compF Go.Proofs.Tryz.prog f65A 65 = some f65 := by kernel_rfl

abbrev f66r0 : Pc := .reg [
 Qd 0 10 (.mv (kz 0))] [0, 1, 2, 3, 4] []
abbrev f66r1 : Pc := .reg [
 Qd 0 13 (.mv (tm 0)),
 Qd 1 14 (.mv (tm 3)),
 Qd 2 15 (.mv (tm 4)),
 Qd 3 16 (.ixS 2 (tm 13) (tm 14)),
 Qd 4 17 (.ixA 2 1 (tm 16) (tm 15)),
 Qd 5 18 (.load false 1 (tm 17)),
 Qd 6 11 (.mv (tm 18))] [0, 1, 2, 3, 4, 11] []
abbrev f66r2 : Pc := .reg [
 Qd 0 19 (.mv (tm 0)),
 Qd 1 20 (.mv (tm 3)),
 Qd 2 21 (.mv (tm 4)),
 Qd 3 22 (.mv (tm 11)),
 Qd 4 23 (.call 111 [(tm 19), (tm 20), (tm 21), (tm 22)]),
 Qd 5 12 (.mv (tm 23))] [1, 2, 11, 12] []
abbrev f66r3 : Pc := .reg [
 Qd 0 24 (.mv (tm 11)),
 Qd 1 25 (.bin .lss (tm 24) (kz 0)),
 Qd 2 26 (.mv (tm 25)),
 Gf 3 27 26 (.mv (tm 11)),
 Gf 4 28 26 (.mv (tm 1)),
 Gf 5 29 26 (.bin .geq (tm 27) (tm 28)),
 Qd 6 30 (.pick (tm 26) kT (tm 29)),
 Qd 7 31 (.mv (tm 30)),
 Gf 8 32 31 (.mv (tm 12)),
 Gf 9 33 31 (.mv (tm 2)),
 Gf 10 34 31 (.bin .geq (tm 32) (tm 33)),
 Qd 11 35 (.pick (tm 31) kT (tm 34))] [12, 35] []
abbrev f66r4 : Pc := .reg [
 Qd 0 10 (.mv (kz (-1)))] [10] []
abbrev f66r5 : Pc := .reg [
 Qd 0 36 (.mv (tm 12)),
 Qd 1 10 (.mv (tm 36))] [10] []
abbrev f66b : Pc := (.seq f66r0 (.seq f66r1 (.seq f66r2 (.seq (.seq f66r3 (.cond (tm 35) (.seq f66r4 .ret) .skip)) (.seq f66r5 .ret)))))
abbrev f66 : Pfn := ⟨5, 37, [.tmp 10], f66b⟩
def f66K : Array (List Nat) := #[[0, 1, 2, 3, 4], [0, 1, 2, 3, 4, 11], [1, 2, 11, 12], [12, 35], [10], [10]]
def f66H : Array (List Nat) := #[[], [], [], [], [], []]
def f66A : Ann := ⟨fun r => f66K.getD r [], fun r => f66H.getD r [], fun r i => ([] : List (Nat × Nat)).contains (r, i)⟩
theorem f66C : compF Go.Proofs.Tryz.prog f66A 66 = some f66 := by kernel_rfl

abbrev f67r0 : Pc := .reg [
 Qd 0 2 (.mv (kz 0))] [0] []
abbrev f67r1 : Pc := .reg [
 Qd 0 3 (.mv (tm 0)),
 Qd 1 4 (.bin .gtr (tm 3) (kz 2147483647))] [0, 4] []
abbrev f67r2 : Pc := .reg [
 Qd 0 2 (.mv (kz 2147483647))] [2] []
abbrev f67r3 : Pc := .reg [
 Qd 0 5 (.mv (tm 0)),
 Qd 1 6 (.bin .lss (tm 5) (kz (-2147483647)))] [0, 6] []
abbrev f67r4 : Pc := .reg [
 Qd 0 2 (.mv (kz (-2147483647)))] [2] []
abbrev f67r5 : Pc := .reg [
 Qd 0 7 (.mv (tm 0)),
 Qd 1 2 (.mv (tm 7))] [2] []
abbrev f67b : Pc := (.seq f67r0 (.seq (.seq f67r1 (.cond (tm 4) (.seq f67r2 .ret) .skip)) (.seq (.seq f67r3 (.cond (tm 6) (.seq f67r4 .ret) .skip)) (.seq f67r5 .ret))))
abbrev f67 : Pfn := ⟨1, 8, [.tmp 2], f67b⟩
def f67K : Array (List Nat) := #[[0], [0, 4], [2], [0, 6], [2], [2]]
def f67H : Array (List Nat) := #[[], [], [], [], [], []]
def f67A : Ann := ⟨fun r => f67K.getD r [], fun r => f67H.getD r [], fun r i => ([] : List (Nat × Nat)).contains (r, i)⟩
theorem f67C : compF Go.Proofs.Tryz.prog f67A 67 = some f67 := by kernel_rfl

abbrev f68r0 : Pc := .reg [
 Qd 0 4 (.mv (kz 0))] [0, 1] []
abbrev f68r1 : Pc := .reg [
 Qd 0 7 (.mv (tm 0)),
 Qd 1 8 (.call 67 [(tm 7)]),
 Qd 2 9 (.mv (tm 1)),
 Qd 3 10 (.call 67 [(tm 9)]),
 Qd 4 0 (.mv (tm 8)),
 Qd 5 1 (.mv (tm 10))] [0, 1] []
abbrev f68r2 : Pc := .reg [
 Qd 0 5 (.mv kF)] [0, 1, 5] []
abbrev f68r3 : Pc := .reg [
 Qd 0 11 (.mv (tm 0)),
 Qd 1 12 (.bin .lss (tm 11) (kz 0))] [0, 1, 5, 12] []
abbrev f68r4 : Pc := .reg [
 Qd 0 13 (.mv (tm 0)),
 Qd 1 14 (.un .neg (tm 13)),
 Qd 2 15 (.mv (tm 5)),
 Qd 3 16 (.un .not (tm 15)),
 Qd 4 0 (.mv (tm 14)),
 Qd 5 5 (.mv (tm 16))] [0, 1, 5] []
abbrev f68r5 : Pc := .reg [
 Qd 0 17 (.mv (tm 1)),
 Qd 1 18 (.bin .lss (tm 17) (kz 0))] [0, 1, 5, 18] []
abbrev f68r6 : Pc := .reg [
 Qd 0 19 (.mv (tm 1)),
 Qd 1 20 (.un .neg (tm 19)),
 Qd 2 21 (.mv (tm 5)),
 Qd 3 22 (.un .not (tm 21)),
 Qd 4 1 (.mv (tm 20)),
 Qd 5 5 (.mv (tm 22))] [0, 1, 5] []
abbrev f68r7 : Pc := .reg [
 Qd 0 23 (.mv (tm 0)),
 Qd 1 24 (.mv (tm 1)),
 Qd 2 25 (.bin .mul (tm 23) (tm 24)),
 Qd 3 26 (.bin .quo (tm 25) (kz 65536)),
 Qd 4 6 (.mv (tm 26))] [5, 6] []
abbrev f68r8 : Pc := .reg [
 Qd 0 27 (.mv (tm 5))] [6, 27] []
abbrev f68r9 : Pc := .reg [
 Qd 0 28 (.mv (tm 6)),
 Qd 1 29 (.un .neg (tm 28)),
 Qd 2 6 (.mv (tm 29))] [6] []
abbrev f68r10 : Pc := .reg [
 Qd 0 30 (.mv (tm 6)),
 Qd 1 31 (.call 67 [(tm 30)]),
 Qd 2 4 (.mv (tm 31))] [4] []
abbrev f68b : Pc := (.seq f68r0 (.seq f68r1 (.seq f68r2 (.seq (.seq f68r3 (.cond (tm 12) f68r4 .skip)) (.seq (.seq f68r5 (.cond (tm 18) f68r6 .skip)) (.seq f68r7 (.seq (.seq f68r8 (.cond (tm 27) f68r9 .skip)) (.seq f68r10 .ret))))))))
abbrev f68 : Pfn := ⟨2, 32, [.tmp 4], f68b⟩
def f68K : Array (List Nat) := #[[0, 1], [0, 1], [0, 1, 5], [0, 1, 5, 12], [0, 1, 5], [0, 1, 5, 18], [0, 1, 5], [5, 6], [6, 27], [6], [4]]
def f68H : Array (List Nat) := #[[], [], [], [], [], [], [], [], [], [], []]
def f68A : Ann := ⟨fun r => f68K.getD r [], fun r => f68H.getD r [], fun r i => ([] : List (Nat × Nat)).contains (r, i)⟩
theorem f68C : compF Go.Proofs.Tryz.prog f68A 68 = some f68 := by kernel_rfl

abbrev f69r0 : Pc := .reg [
 Qd 0 4 (.nilv 3 1),
 Qd 1 5 (.mv kF)] [0, 1] [4, 6, 30]
abbrev f69r1 : Pc := .reg [
 Qd 0 6 (.nilv 3 1)] [0, 1, 6] []
abbrev f69r2 : Pc := .reg [
 Qd 0 7 (.mv (kz 0))] [0, 1, 6, 7] []
abbrev f69r3 : Pc := .reg [
 Qd 0 8 (.mv (tm 7)),
 Qd 1 9 (.mv (tm 0)),
 Qd 2 10 (.lenL (tm 9)),
 Qd 3 11 (.bin .lss (tm 8) (tm 10))] [0, 1, 6, 7, 11] []
abbrev f69r5 : Pc := .reg [
 Qd 0 14 (.mv (tm 0)),
 Qd 1 15 (.mv (tm 7)),
 Qd 2 16 (.ixS 1 (tm 14) (tm 15)),
 Qd 3 17 (.load false 1 (tm 16)),
 Qd 4 18 (.lenL (tm 17)),
 Qd 5 19 (.mv (tm 1)),
 Qd 6 20 (.lenL (tm 19)),
 Qd 7 21 (.bin .neq (tm 18) (tm 20))] [0, 1, 6, 7, 21] []
abbrev f69r6 : Pc := .reg [
 Qd 0 4 (.nilv 3 1),
 Qd 1 5 (.mv kF)] [4, 5] []
abbrev f69r7 : Pc := .reg [
 Qd 0 22 (.mv (tm 6)),
 Qd 1 23 (.mv (tm 0)),
 Qd 2 24 (.mv (tm 7)),
 Qd 3 25 (.ixS 1 (tm 23) (tm 24)),
 Qd 4 26 (.load false 1 (tm 25)),
 Qd 5 27 (.mv (tm 1)),
 Qd 6 28 (.call 112 [(tm 26), (tm 27)]),
 Qd 7 29 (.bslT 1 [(tm 28)]),
 Qd 8 30 (.app 3 1 8 (tm 22) (tm 29)),
 Qd 9 6 (.mv (tm 30))] [0, 1, 6, 7] []
abbrev f69r4 : Pc := .reg [
 Qd 0 12 (.mv (tm 7)),
 Qd 1 13 (.bin .add (tm 12) (kz 1)),
 Qd 2 7 (.mv (tm 13))] [0, 1, 6, 7] []
def f69l0 : Pc := (.seq (.seq f69r3 (.cond (tm 11) .skip (.exit 0))) (.seq (.block 1 (.seq (.seq f69r5 (.cond (tm 21) (.seq f69r6 .ret) .skip)) f69r7)) f69r4))
theorem f69l0e (C : Cfg) (s : St) : evL C f69l0 s = evL C (.seq (.seq f69r3 (.cond (tm 11) .skip (.exit 0))) (.seq (.block 1 (.seq (.seq f69r5 (.cond (tm 21) (.seq f69r6 .ret) .skip)) f69r7)) f69r4)) s := rfl
abbrev f69r8 : Pc := .reg [
 Qd 0 31 (.mv (tm 6)),
 Qd 1 4 (.mv (tm 31)),
 Qd 2 5 (.mv kT)] [4, 5] []
abbrev f69b : Pc := (.seq f69r0 (.seq f69r1 (.seq (.seq f69r2 (.block 0 (.loop f69l0))) (.seq f69r8 .ret))))
abbrev f69 : Pfn := ⟨2, 32, [.tmp 4, .tmp 5], f69b⟩
def f69K : Array (List Nat) := #[[0, 1], [0, 1, 6], [0, 1, 6, 7], [0, 1, 6, 7, 11], [0, 1, 6, 7], [0, 1, 6, 7, 21], [4, 5], [0, 1, 6, 7], [4, 5]]
def f69H : Array (List Nat) := #[[4, 6, 30], [], [], [], [], [], [], [], []]
def f69A : Ann := ⟨fun r => f69K.getD r [], fun r => f69H.getD r [], fun r i => ([] : List (Nat × Nat)).contains (r, i)⟩
theorem f69C : compF Go.Proofs.Tryz.prog f69A 69 = some f69 := by kernel_rfl

abbrev f70r0 : Pc := .reg [
 Qd 0 2 (.nilv 3 1)] [0] [2, 3, 22]
abbrev f70r1 : Pc := .reg [
 Qd 0 3 (.nilv 3 1)] [0, 3] []
abbrev f70r2 : Pc := .reg [
 Qd 0 4 (.mv (kz 0))] [0, 3, 4] []
abbrev f70r3 : Pc := .reg [
 Qd 0 6 (.mv (tm 4)),
 Qd 1 7 (.mv (tm 0)),
 Qd 2 8 (.lenL (tm 7)),
 Qd 3 9 (.bin .lss (tm 6) (tm 8))] [0, 3, 4, 9] []
abbrev f70r5 : Pc := .reg [
 Qd 0 12 (.mv (tm 0)),
 Qd 1 13 (.mv (tm 4)),
 Qd 2 14 (.ixS 1 (tm 12) (tm 13)),
 Qd 3 15 (.load false 1 (tm 14)),
 Qd 4 16 (.call 67 [(tm 15)]),
 Qd 5 5 (.mv (tm 16))] [0, 3, 4, 5] []
abbrev f70r6 : Pc := .reg [
 Qd 0 17 (.mv (tm 5)),
 Qd 1 18 (.bin .lss (tm 17) (kz 0))] [0, 3, 4, 5, 18] []
abbrev f70r7 : Pc := .reg [
 Qd 0 5 (.mv (kz 0))] [0, 3, 4, 5] []
abbrev f70r8 : Pc := .reg [
 Qd 0 19 (.mv (tm 3)),
 Qd 1 20 (.mv (tm 5)),
 Qd 2 21 (.bslT 1 [(tm 20)]),
 Qd 3 22 (.app 3 1 8 (tm 19) (tm 21)),
 Qd 4 3 (.mv (tm 22))] [0, 3, 4] []
abbrev f70r4 : Pc := .reg [
 Qd 0 10 (.mv (tm 4)),
 Qd 1 11 (.bin .add (tm 10) (kz 1)),
 Qd 2 4 (.mv (tm 11))] [0, 3, 4] []
def f70l0 : Pc := (.seq (.seq f70r3 (.cond (tm 9) .skip (.exit 0))) (.seq (.block 1 (.seq f70r5 (.seq (.seq f70r6 (.cond (tm 18) f70r7 .skip)) f70r8))) f70r4))
theorem f70l0e (C : Cfg) (s : St) : evL C f70l0 s = evL C (.seq (.seq f70r3 (.cond (tm 9) .skip (.exit 0))) (.seq (.block 1 (.seq f70r5 (.seq (.seq f70r6 (.cond (tm 18) f70r7 .skip)) f70r8))) f70r4)) s := rfl
abbrev f70r9 : Pc := .reg [
 Qd 0 23 (.mv (tm 3)),
 Qd 1 2 (.mv (tm 23))] [2] []
abbrev f70b : Pc := (.seq f70r0 (.seq f70r1 (.seq (.seq f70r2 (.block 0 (.loop f70l0))) (.seq f70r9 .ret))))
abbrev f70 : Pfn := ⟨1, 24, [.tmp 2], f70b⟩
def f70K : Array (List Nat) := #[[0], [0, 3], [0, 3, 4], [0, 3, 4, 9], [0, 3, 4], [0, 3, 4, 5], [0, 3, 4, 5, 18], [0, 3, 4, 5], [0, 3, 4], [2]]
def f70H : Array (List Nat) := #[[2, 3, 22], [], [], [], [], [], [], [], [], []]
def f70A : Ann := ⟨fun r => f70K.getD r [], fun r => f70H.getD r [], fun r i => ([] : List (Nat × Nat)).contains (r, i)⟩
theorem f70C : compF Go.Proofs.Tryz.prog f70A 70 = some f70 := by kernel_rfl

abbrev f71r0 : Pc := .reg [
 Qd 0 2 (.box 37 3 (tm 0)),
 Qd 1 3 (.mv kF)] [1, 2] []
abbrev f71r1 : Pc := .reg [
 Qd 0 4 (.load true 3 (tm 2)),
 Qd 1 5 (.fad 0 (tm 1)),
 Qd 2 6 (.load false 1 (tm 5)),
 Qd 3 7 (.call 72 [(tm 4), (tm 6)]),
 Qd 4 8 (.un .not (tm 7)),
 Qd 5 3 (.mv (tm 8))] [3] [2]
abbrev f71b : Pc := (.seq f71r0 (.seq f71r1 .ret))
abbrev f71 : Pfn := ⟨2, 9, [.tmp 3], f71b⟩
def f71K : Array (List Nat) := #[[1, 2], [3]]
def f71H : Array (List Nat) := #[[], [2]]
def f71A : Ann := ⟨fun r => f71K.getD r [], fun r => f71H.getD r [], fun r i => ([] : List (Nat × Nat)).contains (r, i)⟩
theorem f71C : compF Go.Proofs.Tryz.prog f71A 71 = some f71 := by kernel_rfl

abbrev f72r0 : Pc := .reg [
 Qd 0 2 (.box 37 3 (tm 0)),
 Qd 1 3 (.box 3 1 (tm 1)),
 Qd 2 4 (.mv kF)] [2, 3] []
abbrev f72r1 : Pc := .reg [
 Qd 0 6 (.fad 1 (tm 2)),
 Qd 1 7 (.load false 1 (tm 6)),
 Qd 2 8 (.lenL (tm 7)),
 Qd 3 5 (.mv (tm 8))] [2, 3, 5] []
abbrev f72r2 : Pc := .reg [
 Qd 0 9 (.mv (tm 5)),
 Qd 1 10 (.bin .geq (tm 9) (kz 1)),
 Qd 2 11 (.mv (tm 10)),
 Gt 3 12 11 (.mv (tm 5)),
 Gt 4 13 11 (.bin .leq (tm 12) (kz 8)),
 Qd 5 14 (.pick (tm 11) (tm 13) kF),
 Qd 6 15 (.mv (tm 14)),
 Gt 7 16 15 (.fad 0 (tm 2)),
 Gt 8 17 15 (.load false 1 (tm 16)),
 Gt 9 18 15 (.mv (tm 5)),
 Gt 10 19 15 (.load false 1 (tm 3)),
 Gt 11 20 15 (.call 113 [(tm 17), (tm 18), (tm 19)]),
 Qd 12 21 (.pick (tm 15) (tm 20) kF),
 Qd 13 22 (.mv (tm 21)),
 Gt 14 23 22 (.fad 2 (tm 2)),
 Gt 15 24 22 (.load false 1 (tm 23)),
 Gt 16 25 22 (.bin .geq (tm 24) (kz 1)),
 Qd 17 26 (.pick (tm 22) (tm 25) kF),
 Qd 18 27 (.mv (tm 26)),
 Gt 19 28 27 (.fad 2 (tm 2)),
 Gt 20 29 27 (.load false 1 (tm 28)),
 Gt 21 30 27 (.bin .leq (tm 29) (kz 32)),
 Qd 22 31 (.pick (tm 27) (tm 30) kF),
 Qd 23 32 (.mv (tm 31)),
 Gt 24 33 32 (.fad 1 (tm 2)),
 Gt 25 34 32 (.load false 1 (tm 33)),
 Gt 26 35 32 (.mkfn 115 [(tm 3)]),
 Gt 27 36 32 (.call 114 [(tm 34), (tm 35)]),
 Gt 28 37 32 (.un .not (tm 36)),
 Qd 29 38 (.pick (tm 32) (tm 37) kF),
 Qd 30 4 (.mv (tm 38))] [4] [2, 3]
abbrev f72b : Pc := (.seq f72r0 (.seq f72r1 (.seq f72r2 .ret)))
abbrev f72 : Pfn := ⟨2, 39, [.tmp 4], f72b⟩
def f72K : Array (List Nat) := #[[2, 3], [2, 3, 5], [4]]
def f72H : Array (List Nat) := #[[], [], [2, 3]]
def f72A : Ann := ⟨fun r => f72K.getD r [], fun r => f72H.getD r [], fun r i => ([] : List (Nat × Nat)).contains (r, i)⟩
theorem f72C : compF Go.Proofs.Tryz.prog f72A 72 = some f72 := by kernel_rfl

abbrev f73r0 : Pc := .reg [
 Qd 0 4 (.mv kF)] [0, 1] []
abbrev f73r1 : Pc := .reg [
 Qd 0 5 (.mv (tm 0)),
 Qd 1 6 (.mv (tm 1)),
 Qd 2 7 (.call 117 [(tm 5), (tm 6)]),
 Qd 3 8 (.bin .geq (tm 7) (kz 0)),
 Qd 4 4 (.mv (tm 8))] [4] []
abbrev f73b : Pc := (.seq f73r0 (.seq f73r1 .ret))
abbrev f73 : Pfn := ⟨2, 9, [.tmp 4], f73b⟩
def f73K : Array (List Nat) := #[[0, 1], [4]]
def f73H : Array (List Nat) := #[[], []]
def f73A : Ann := ⟨fun r => f73K.getD r [], fun r => f73H.getD r [], fun r i => ([] : List (Nat × Nat)).contains (r, i)⟩
theorem f73C : compF Go.Proofs.Tryz.prog f73A 73 = some f73 := by kernel_rfl

abbrev f74r0 : Pc := .reg [
 Qd 0 3 (.mv kF)] [0, 1] []
abbrev f74r1 : Pc := .reg [
 Qd 0 4 (.mv (tm 0)),
 Qd 1 5 (.lenL (tm 4)),
 Qd 2 6 (.fad 0 (tm 1)),
 Qd 3 7 (.load false 1 (tm 6)),
 Qd 4 8 (.bin .neq (tm 5) (tm 7)),
 Qd 5 9 (.mv (tm 8)),
 Gf 6 10 9 (.mv (tm 0)),
 Gf 7 11 9 (.call 75 [(tm 10), (.c (.fn 76 []))]),
 Qd 8 12 (.pick (tm 9) kT (tm 11)),
 Qd 9 3 (.mv (tm 12))] [3] []
abbrev f74b : Pc := (.seq f74r0 (.seq f74r1 .ret))
abbrev f74 : Pfn := ⟨2, 13, [.tmp 3], f74b⟩
def f74K : Array (List Nat) := #[[0, 1], [3]]
def f74H : Array (List Nat) := #[[], []]
def f74A : Ann := ⟨fun r => f74K.getD r [], fun r => f74H.getD r [], fun r i => ([] : List (Nat × Nat)).contains (r, i)⟩
theorem f74C : compF Go.Proofs.Tryz.prog f74A 74 = some f74 := by kernel_rfl

abbrev f75r0 : Pc := .reg [
 Qd 0 4 (.mv kF)] [0, 1] []
abbrev f75r1 : Pc := .reg [
 Qd 0 5 (.mv (tm 0)),
 Qd 1 6 (.mv (tm 1)),
 Qd 2 7 (.call 118 [(tm 5), (tm 6)]),
 Qd 3 8 (.bin .geq (tm 7) (kz 0)),
 Qd 4 4 (.mv (tm 8))] [4] []
abbrev f75b : Pc := (.seq f75r0 (.seq f75r1 .ret))
abbrev f75 : Pfn := ⟨2, 9, [.tmp 4], f75b⟩
def f75K : Array (List Nat) := #[[0, 1], [4]]
def f75H : Array (List Nat) := #[[], []]
def f75A : Ann := ⟨fun r => f75K.getD r [], fun r => f75H.getD r [], fun r i => ([] : List (Nat × Nat)).contains (r, i)⟩
theorem f75C : compF Go.Proofs.Tryz.prog f75A 75 = some f75 := by kernel_rfl

abbrev f76r0 : Pc := .reg [
 Qd 0 2 (.mv kF)] [0] []
abbrev f76r1 : Pc := .reg [
 Qd 0 3 (.mv (tm 0)),
 Qd 1 4 (.call 77 [(tm 3)]),
 Qd 2 5 (.mv (tm 0)),
 Qd 3 6 (.bin .neq (tm 4) (tm 5)),
 Qd 4 2 (.mv (tm 6))] [2] []
abbrev f76b : Pc := (.seq f76r0 (.seq f76r1 .ret))
abbrev f76 : Pfn := ⟨1, 7, [.tmp 2], f76b⟩
def f76K : Array (List Nat) := #[[0], [2]]
def f76H : Array (List Nat) := #[[], []]
def f76A : Ann := ⟨fun r => f76K.getD r [], fun r => f76H.getD r [], fun r i => ([] : List (Nat × Nat)).contains (r, i)⟩
theorem f76C : compF Go.Proofs.Tryz.prog f76A 76 = some f76 := by kernel_rfl

abbrev f77r0 : Pc := .reg [
 Qd 0 2 (.mv (kz 0))] [0] []
abbrev f77r1 : Pc := .reg [
 Qd 0 3 (.mv (tm 0)),
 Qd 1 4 (.mm false [(kz 2147483647), (tm 3)]),
 Qd 2 5 (.mm true [(kz (-2147483647)), (tm 4)]),
 Qd 3 2 (.mv (tm 5))] [2] []
abbrev f77b : Pc := (.seq f77r0 (.seq f77r1 .ret))
abbrev f77 : Pfn := ⟨1, 6, [.tmp 2], f77b⟩
def f77K : Array (List Nat) := #[[0], [2]]
def f77H : Array (List Nat) := #[[], []]
def f77A : Ann := ⟨fun r => f77K.getD r [], fun r => f77H.getD r [], fun r i => ([] : List (Nat × Nat)).contains (r, i)⟩
theorem f77C : compF Go.Proofs.Tryz.prog f77A 77 = some f77 := by kernel_rfl

abbrev f78r0 : Pc := .reg [
 Qd 0 4 (.mv (kz 0))] [0, 1] []
abbrev f78r1 : Pc := .reg [
 Qd 0 6 (.mv (tm 0)),
 Qd 1 7 (.lenL (tm 6)),
 Qd 2 8 (.mv (kz 0))] [0, 1, 7, 8] []
abbrev f78r2 : Pc := .reg [
 Qd 0 9 (.bin .lss (tm 8) (tm 7))] [0, 1, 7, 8, 9] []
abbrev f78r3 : Pc := .reg [
 Qd 0 10 (.mv (tm 8)),
 Qd 1 5 (.mv (tm 10))] [0, 1, 5, 7, 8] []
abbrev f78r4 : Pc := .reg [
 Qd 0 11 (.mv (tm 1)),
 Qd 1 12 (.mv (tm 0)),
 Qd 2 13 (.mv (tm 5)),
 Qd 3 14 (.ixS 3 (tm 12) (tm 13)),
 Qd 4 15 (.load true 3 (tm 14)),
 Qd 5 16 (.callv (tm 11) [(tm 15)])] [0, 1, 5, 7, 8, 16] []
abbrev f78r5 : Pc := .reg [
 Qd 0 17 (.mv (tm 5)),
 Qd 1 4 (.mv (tm 17))] [4] []
abbrev f78r6 : Pc := .reg [
 Qd 0 18 (.bin .add (tm 8) (kz 1)),
 Qd 1 8 (.mv (tm 18))] [0, 1, 7, 8] []
def f78l0 : Pc := (.seq f78r2 (.seq (.cond (tm 9) .skip (.exit 0)) (.seq (.block 1 (.seq f78r3 (.seq f78r4 (.cond (tm 16) (.seq f78r5 .ret) .skip)))) f78r6)))
theorem f78l0e (C : Cfg) (s : St) : evL C f78l0 s = evL C (.seq f78r2 (.seq (.cond (tm 9) .skip (.exit 0)) (.seq (.block 1 (.seq f78r3 (.seq f78r4 (.cond (tm 16) (.seq f78r5 .ret) .skip)))) f78r6))) s := rfl
abbrev f78r7 : Pc := .reg [
 Qd 0 4 (.mv (kz (-1)))] [4] []
abbrev f78b : Pc := (.seq f78r0 (.seq (.seq f78r1 (.block 0 (.loop f78l0))) (.seq f78r7 .ret)))
abbrev f78 : Pfn := ⟨2, 19, [.tmp 4], f78b⟩
def f78K : Array (List Nat) := #[[0, 1], [0, 1, 7, 8], [0, 1, 7, 8, 9], [0, 1, 5, 7, 8], [0, 1, 5, 7, 8, 16], [4], [0, 1, 7, 8], [4]]
def f78H : Array (List Nat) := #[[], [], [], [], [], [], [], []]
def f78A : Ann := ⟨fun r => f78K.getD r [], fun r => f78H.getD r [], fun r i => ([] : List (Nat × Nat)).contains (r, i)⟩
theorem f78C : compF Go.Proofs.Tryz.prog f78A 78 = some f78 := by kernel_rfl

abbrev f79r0 : Pc := .reg [
 Qd 0 2 (.box 37 3 (tm 0)),
 Qd 1 4 (.nilv 91 4)] [1, 2] [4, 11, 87]
abbrev f79r1 : Pc := .reg [
 Qd 0 5 (.nilv 164 4)] [1, 2, 5] []
abbrev f79r2 : Pc := .reg [
 Qd 0 6 (.nilv 115 2)] [1, 2, 5, 6] []
abbrev f79r3 : Pc := .reg [
 Qd 0 16 (.mv (tm 1)),
 Qd 1 17 (.lenL (tm 16)),
 Qd 2 18 (.mv (kz 0))] [2, 5, 6, 16, 17, 18] []
abbrev f79r4 : Pc := .reg [
 Qd 0 19 (.bin .lss (tm 18) (tm 17))] [2, 5, 6, 16, 17, 18, 19] []
abbrev f79r5 : Pc := .reg [
 Qd 0 20 (.ixS 1 (tm 16) (tm 18)),
 Qd 1 21 (.load false 1 (tm 20)),
 Qd 2 8 (.mv (tm 21))] [2, 5, 6, 8, 16, 17, 18] []
abbrev f79r6 : Pc := .reg [
 Qd 0 23 (.fad 0 (tm 2)),
 Qd 1 24 (.load false 1 (tm 23)),
 Qd 2 25 (.mv (tm 8)),
 Qd 3 26 (.call 119 [(tm 24), (tm 25)]),
 Qd 4 22 (.mv (tm 26)),
 Qd 5 27 (.ext 0 (tm 22)),
 Qd 6 28 (.ext 1 (tm 22)),
 Qd 7 9 (.alloc 164 [(.t (.i .i64 0)), (.t (.i .i64 0)), (.t (.i .i64 0)), (.t (.i .i64 0))]),
 Qn 8 (.store 4 (tm 9) (tm 27)),
 Qd 9 10 (.mv (tm 28))] [2, 5, 6, 9, 16, 17, 18] []
abbrev f79r7 : Pc := .reg [
 Qd 0 29 (.mv (tm 5)),
 Qd 1 30 (.load true 4 (tm 9)),
 Qd 2 31 (.bslT 4 [(tm 30)]),
 Qd 3 32 (.app 164 4 32 (tm 29) (tm 31)),
 Qd 4 5 (.mv (tm 32))] [2, 5, 6, 9, 16, 17, 18] []
abbrev f79r8 : Pc := .reg [
 Qd 0 33 (.mv (tm 6)),
 Qd 1 34 (.fad 0 (tm 9)),
 Qd 2 35 (.load false 1 (tm 34)),
 Qd 3 36 (.fad 1 (tm 9)),
 Qd 4 37 (.load false 1 (tm 36)),
 Qd 5 38 (.build [(.t (.i .i64 0)), (.t (.i .i64 0))] [(0, 1, (tm 35)), (1, 1, (tm 37))]),
 Qd 6 39 (.bslT 2 [(tm 38)]),
 Qd 7 40 (.app 115 2 16 (tm 33) (tm 39)),
 Qd 8 6 (.mv (tm 40))] [2, 5, 6, 16, 17, 18] [9]
abbrev f79r9 : Pc := .reg [
 Qd 0 41 (.bin .add (tm 18) (kz 1)),
 Qd 1 18 (.mv (tm 41))] [2, 5, 6, 16, 17, 18] []
def f79l0 : Pc := (.seq f79r4 (.seq (.cond (tm 19) .skip (.exit 0)) (.seq (.block 1 (.seq f79r5 (.seq f79r6 (.seq f79r7 f79r8)))) f79r9)))
theorem f79l0e (C : Cfg) (s : St) : evL C f79l0 s = evL C (.seq f79r4 (.seq (.cond (tm 19) .skip (.exit 0)) (.seq (.block 1 (.seq f79r5 (.seq f79r6 (.seq f79r7 f79r8)))) f79r9))) s := rfl
abbrev f79r10 : Pc := .reg [
 Qd 0 11 (.nilv 91 4)] [2, 5, 6, 11] []
abbrev f79r11 : Pc := .reg [
 Qd 0 42 (.mv (tm 6)),
 Qd 1 43 (.fad 1 (tm 2)),
 Qd 2 44 (.load false 1 (tm 43)),
 Qd 3 45 (.lenL (tm 44)),
 Qd 4 46 (.fad 2 (tm 2)),
 Qd 5 47 (.load false 1 (tm 46)),
 Qd 6 48 (.call 120 [(tm 42), (tm 45), (tm 47)]),
 Qd 7 49 (.lenL (tm 48)),
 Qd 8 50 (.mv (kz 0))] [5, 6, 11, 48, 49, 50] [2]
abbrev f79r12 : Pc := .reg [
 Qd 0 51 (.bin .lss (tm 50) (tm 49))] [5, 6, 11, 48, 49, 50, 51] []
abbrev f79r13 : Pc := .reg [
 Qd 0 52 (.mv (tm 50)),
 Qd 1 53 (.ixS 2 (tm 48) (tm 50)),
 Qd 2 54 (.load true 2 (tm 53)),
 Qd 3 13 (.alloc 115 [(.t (.i .i64 0)), (.t (.i .i64 0))]),
 Qd 4 12 (.mv (tm 52)),
 Qn 5 (.store 2 (tm 13) (tm 54))] [5, 6, 11, 12, 13, 48, 49, 50] []
abbrev f79r14 : Pc := .reg [
 Qd 0 55 (.load true 2 (tm 13)),
 Qd 1 56 (.mv (kz 0))] [5, 6, 11, 12, 48, 49, 50, 55, 56] [13]
abbrev f79r15 : Pc := .reg [
 Qd 0 57 (.bin .lss (tm 56) (kz 2))] [5, 6, 11, 12, 48, 49, 50, 55, 56, 57] []
abbrev f79r16 : Pc := .reg [
 Qd 0 58 (.mv (tm 56)),
 Qd 1 59 (.ixV false 2 1 (tm 55) (tm 56)),
 Qd 2 14 (.mv (tm 58)),
 Qd 3 15 (.mv (tm 59))] [5, 6, 11, 12, 14, 15, 48, 49, 50, 55, 56] []
abbrev f79r17 : Pc := .reg [
 Qd 0 60 (.mv (tm 15)),
 Qd 1 61 (.bin .geq (tm 60) (kz 0))] [5, 6, 11, 12, 14, 48, 49, 50, 55, 56, 61] []
abbrev f79r18 : Pc := .reg [
 Qd 0 62 (.mv (tm 11)),
 Qd 1 63 (.mv (tm 12)),
 Qd 2 64 (.mv (tm 14)),
 Qd 3 65 (.mv (tm 6)),
 Qd 4 66 (.mv (tm 12)),
 Qd 5 67 (.mv (tm 14)),
 Qd 6 68 (.ixS 2 (tm 65) (tm 66)),
 Qd 7 69 (.ixA 2 1 (tm 68) (tm 67)),
 Qd 8 70 (.load false 1 (tm 69)),
 Qd 9 71 (.mv (tm 5)),
 Qd 10 72 (.mv (tm 12)),
 Qd 11 73 (.ixS 4 (tm 71) (tm 72)),
 Qd 12 74 (.fad 2 (tm 73)),
 Qd 13 75 (.load false 1 (tm 74)),
 Qd 14 76 (.mv (tm 5)),
 Qd 15 77 (.mv (tm 12)),
 Qd 16 78 (.ixS 4 (tm 76) (tm 77)),
 Qd 17 79 (.fad 3 (tm 78)),
 Qd 18 80 (.load false 1 (tm 79)),
 Qd 19 81 (.bslF 1 [(tm 75), (tm 80)]),
 Qd 20 82 (.mv (tm 14)),
 Qd 21 83 (.ixS 1 (tm 81) (tm 82)),
 Qd 22 84 (.load false 1 (tm 83)),
 Qd 23 85 (.build [(.t (.i .i64 0)), (.t (.i .i64 0)), (.t (.i .i64 0)), (.t (.i .i64 0))] [(0, 1, (tm 63)), (1, 1, (tm 64)), (2, 1, (tm 70)), (3, 1, (tm 84))]),
 Qd 24 86 (.bslT 4 [(tm 85)]),
 Qd 25 87 (.app 91 4 32 (tm 62) (tm 86)),
 Qd 26 11 (.mv (tm 87))] [5, 6, 11, 12, 48, 49, 50, 55, 56] []
abbrev f79r19 : Pc := .reg [
 Qd 0 88 (.bin .add (tm 56) (kz 1)),
 Qd 1 56 (.mv (tm 88))] [5, 6, 11, 12, 48, 49, 50, 55, 56] []
def f79l1 : Pc := (.seq f79r15 (.seq (.cond (tm 57) .skip (.exit 4)) (.seq (.block 5 (.seq f79r16 (.seq f79r17 (.cond (tm 61) f79r18 .skip)))) f79r19)))
theorem f79l1e (C : Cfg) (s : St) : evL C f79l1 s = evL C (.seq f79r15 (.seq (.cond (tm 57) .skip (.exit 4)) (.seq (.block 5 (.seq f79r16 (.seq f79r17 (.cond (tm 61) f79r18 .skip)))) f79r19))) s := rfl
abbrev f79r20 : Pc := .reg [
 Qd 0 89 (.bin .add (tm 50) (kz 1)),
 Qd 1 50 (.mv (tm 89))] [5, 6, 11, 48, 49, 50] []
def f79l2 : Pc := (.seq f79r12 (.seq (.cond (tm 51) .skip (.exit 2)) (.seq (.block 3 (.seq f79r13 (.seq f79r14 (.block 4 (.loop f79l1))))) f79r20)))
theorem f79l2e (C : Cfg) (s : St) : evL C f79l2 s = evL C (.seq f79r12 (.seq (.cond (tm 51) .skip (.exit 2)) (.seq (.block 3 (.seq f79r13 (.seq f79r14 (.block 4 (.loop f79l1))))) f79r20))) s := rfl
abbrev f79r21 : Pc := .reg [
 Qd 0 90 (.mv (tm 11)),
 Qd 1 4 (.mv (tm 90))] [4] [5, 6, 32, 40]
abbrev f79b : Pc := (.seq f79r0 (.seq f79r1 (.seq f79r2 (.seq (.seq f79r3 (.block 0 (.loop f79l0))) (.seq f79r10 (.seq (.seq f79r11 (.block 2 (.loop f79l2))) (.seq f79r21 .ret)))))))
abbrev f79 : Pfn := ⟨2, 91, [.tmp 4], f79b⟩
def f79K : Array (List Nat) := #[[1, 2], [1, 2, 5], [1, 2, 5, 6], [2, 5, 6, 16, 17, 18], [2, 5, 6, 16, 17, 18, 19], [2, 5, 6, 8, 16, 17, 18], [2, 5, 6, 9, 16, 17, 18], [2, 5, 6, 9, 16, 17, 18], [2, 5, 6, 16, 17, 18], [2, 5, 6, 16, 17, 18], [2, 5, 6, 11], [5, 6, 11, 48, 49, 50], [5, 6, 11, 48, 49, 50, 51], [5, 6, 11, 12, 13, 48, 49, 50], [5, 6, 11, 12, 48, 49, 50, 55, 56], [5, 6, 11, 12, 48, 49, 50, 55, 56, 57], [5, 6, 11, 12, 14, 15, 48, 49, 50, 55, 56], [5, 6, 11, 12, 14, 48, 49, 50, 55, 56, 61], [5, 6, 11, 12, 48, 49, 50, 55, 56], [5, 6, 11, 12, 48, 49, 50, 55, 56], [5, 6, 11, 48, 49, 50], [4]]
def f79H : Array (List Nat) := #[[4, 11, 87], [], [], [], [], [], [], [], [9], [], [], [2], [], [], [13], [], [], [], [], [], [], [5, 6, 32, 40]]
def f79A : Ann := ⟨fun r => f79K.getD r [], fun r => f79H.getD r [], fun r i => ([] : List (Nat × Nat)).contains (r, i)⟩
theorem f79C : compF Go.Proofs.Tryz.prog f79A 79 = some f79 := by kernel_rfl

abbrev f80r0 : Pc := .reg [
 Qd 0 4 (.mv kF)] [0, 1] []
abbrev f80r1 : Pc := .reg [
 Qd 0 5 (.mv (tm 0)),
 Qd 1 6 (.mv (tm 1)),
 Qd 2 7 (.call 121 [(tm 5), (tm 6)]),
 Qd 3 8 (.bin .geq (tm 7) (kz 0)),
 Qd 4 4 (.mv (tm 8))] [4] []
abbrev f80b : Pc := (.seq f80r0 (.seq f80r1 .ret))
abbrev f80 : Pfn := ⟨2, 9, [.tmp 4], f80b⟩
def f80K : Array (List Nat) := #[[0, 1], [4]]
def f80H : Array (List Nat) := #[[], []]
def f80A : Ann := ⟨fun r => f80K.getD r [], fun r => f80H.getD r [], fun r i => ([] : List (Nat × Nat)).contains (r, i)⟩
theorem f80C : compF Go.Proofs.Tryz.prog f80A 80 = some f80 := by kernel_rfl

abbrev f81r0 : Pc := .reg [
 Qd 0 6 (.nilv 31 1)] [0, 1, 2] [6, 13]
abbrev f81r1 : Pc := .reg [
 Qd 0 12 (.mv (tm 0)),
 Qd 1 13 (.call 44 [(tm 12)]),
 Qd 2 7 (.mv (tm 13))] [1, 2, 7] []
abbrev f81r2 : Pc := .reg [
 Qd 0 14 (.mv (tm 1)),
 Qd 1 15 (.lenL (tm 14)),
 Qd 2 16 (.mv (kz 0))] [2, 7, 14, 15, 16] []
abbrev f81r3 : Pc := .reg [
 Qd 0 17 (.bin .lss (tm 16) (tm 15))] [2, 7, 14, 15, 16, 17] []
abbrev f81r4 : Pc := .reg [
 Qd 0 18 (.mv (tm 16)),
 Qd 1 19 (.ixS 4 (tm 14) (tm 16)),
 Qd 2 20 (.load true 4 (tm 19)),
 Qd 3 9 (.alloc 91 [(.t (.i .i64 0)), (.t (.i .i64 0)), (.t (.i .i64 0)), (.t (.i .i64 0))]),
 Qd 4 8 (.mv (tm 18)),
 Qn 5 (.store 4 (tm 9) (tm 20))] [2, 7, 8, 9, 14, 15, 16] []
abbrev f81r5 : Pc := .reg [
 Qd 0 21 (.mv (tm 8)),
 Qd 1 22 (.mv (tm 2)),
 Qd 2 23 (.lenL (tm 22)),
 Qd 3 24 (.bin .geq (tm 21) (tm 23)),
 Qd 4 25 (.mv (tm 24)),
 Gf 5 26 25 (.fad 0 (tm 9)),
 Gf 6 27 25 (.load false 1 (tm 26)),
 Gf 7 28 25 (.bin .lss (tm 27) (kz 0)),
 Qd 8 29 (.pick (tm 25) kT (tm 28)),
 Qd 9 30 (.mv (tm 29)),
 Gf 10 31 30 (.fad 0 (tm 9)),
 Gf 11 32 30 (.load false 1 (tm 31)),
 Gf 12 33 30 (.mv (tm 7)),
 Gf 13 34 30 (.lenL (tm 33)),
 Gf 14 35 30 (.bin .geq (tm 32) (tm 34)),
 Qd 15 36 (.pick (tm 30) kT (tm 35))] [2, 7, 8, 9, 14, 15, 16, 36] []
abbrev f81r6 : Pc := .reg [
 Qd 0 38 (.mv (tm 7)),
 Qd 1 39 (.fad 0 (tm 9)),
 Qd 2 40 (.load false 1 (tm 39)),
 Qd 3 41 (.ixS 1 (tm 38) (tm 40)),
 Qd 4 42 (.load false 1 (tm 41)),
 Qd 5 43 (.mv (tm 2)),
 Qd 6 44 (.mv (tm 8)),
 Qd 7 45 (.ixS 1 (tm 43) (tm 44)),
 Qd 8 46 (.load false 1 (tm 45)),
 Qd 9 47 (.fad 3 (tm 9)),
 Qd 10 48 (.load false 1 (tm 47)),
 Qd 11 49 (.callq 123 [(tm 46), (tm 48)]),
 Qd 12 50 (.callq 122 [(tm 42), (tm 49)]),
 Qd 13 37 (.mv (tm 50)),
 Qd 14 51 (.ext 0 (tm 37)),
 Qd 15 52 (.ext 1 (tm 37)),
 Qd 16 10 (.mv (tm 51)),
 Qd 17 11 (.mv (tm 52))] [2, 7, 9, 10, 11, 14, 15, 16] []
abbrev f81r7 : Pc := .reg [
 Qd 0 53 (.mv (tm 11))] [2, 7, 9, 10, 14, 15, 16, 53] []
abbrev f81r8 : Pc := .reg [
 Qd 0 54 (.mv (tm 7)),
 Qd 1 55 (.fad 0 (tm 9)),
 Qd 2 56 (.load false 1 (tm 55)),
 Qd 3 57 (.mv (tm 10)),
 Qd 4 58 (.ixS 1 (tm 54) (tm 56)),
 Qn 5 (.store 1 (tm 58) (tm 57))] [2, 7, 14, 15, 16] [9]
abbrev f81r9 : Pc := .reg [
 Qd 0 59 (.bin .add (tm 16) (kz 1)),
 Qd 1 16 (.mv (tm 59))] [2, 7, 14, 15, 16] [9]
def f81l0 : Pc := (.seq f81r3 (.seq (.cond (tm 17) .skip (.exit 0)) (.seq (.block 1 (.seq f81r4 (.seq (.seq f81r5 (.cond (tm 36) (.exit 1) .skip)) (.seq f81r6 (.seq f81r7 (.cond (tm 53) f81r8 .skip)))))) f81r9)))
theorem f81l0e (C : Cfg) (s : St) : evL C f81l0 s = evL C (.seq f81r3 (.seq (.cond (tm 17) .skip (.exit 0)) (.seq (.block 1 (.seq f81r4 (.seq (.seq f81r5 (.cond (tm 36) (.exit 1) .skip)) (.seq f81r6 (.seq f81r7 (.cond (tm 53) f81r8 .skip)))))) f81r9))) s := rfl
abbrev f81r10 : Pc := .reg [
 Qd 0 60 (.mv (tm 7)),
 Qd 1 6 (.mv (tm 60))] [6] []
abbrev f81b : Pc := (.seq f81r0 (.seq f81r1 (.seq (.seq f81r2 (.block 0 (.loop f81l0))) (.seq f81r10 .ret))))
abbrev f81 : Pfn := ⟨3, 61, [.tmp 6], f81b⟩
def f81K : Array (List Nat) := #[[0, 1, 2], [1, 2, 7], [2, 7, 14, 15, 16], [2, 7, 14, 15, 16, 17], [2, 7, 8, 9, 14, 15, 16], [2, 7, 8, 9, 14, 15, 16, 36], [2, 7, 9, 10, 11, 14, 15, 16], [2, 7, 9, 10, 14, 15, 16, 53], [2, 7, 14, 15, 16], [2, 7, 14, 15, 16], [6]]
def f81H : Array (List Nat) := #[[6, 13], [], [], [], [], [], [], [], [9], [9], []]
def f81A : Ann := ⟨fun r => f81K.getD r [], fun r => f81H.getD r [], fun r i => ([] : List (Nat × Nat)).contains (r, i)⟩
theorem f81C : compF Go.Proofs.Tryz.prog f81A 81 = some f81 := by kernel_rfl

abbrev f82r0 : Pc := .reg [
 Qd 0 1 (.box 95 11 (tm 0)),
 Qd 1 2 (.mv (.c (.t (.s [])))),
 Qd 2 3 (.mv (kz 0))] [1] []
abbrev f82r1 : Pc := .reg [
 Qd 0 7 (.load true 11 (tm 1)),
 Qd 1 8 (.call 88 [(tm 7)]),
 Qd 2 9 (.un .not (tm 8))] [1, 9] []
abbrev f82r2 : Pc := .reg [
 Qd 0 2 (.mv (.c (.t (.s [])))),
 Qd 1 3 (.mv (kz 1))] [2, 3] [1]
abbrev f82r3 : Pc := .reg [
 Qd 0 4 (.mv (.c (.t (.s []))))] [1, 4] []
abbrev f82r4 : Pc := .reg [
 Qd 0 10 (.load true 11 (tm 1)),
 Qd 1 11 (.callo 124 [(tm 10)]),
 Qd 2 12 (.fad 10 (tm 1)),
 Qd 3 13 (.loadB false 1 (tm 12)),
 Qd 4 14 (.lenL (tm 13)),
 Qd 5 15 (.bslF 1 [(tm 14)]),
 Qd 6 16 (.appU 3 1 8 (tm 11) (tm 15)),
 Qd 7 17 (.fad 10 (tm 1)),
 Qd 8 18 (.loadB false 1 (tm 17)),
 Qd 9 19 (.app 3 1 8 (tm 16) (tm 18)),
 Qd 10 20 (.lenL (tm 19)),
 Qd 11 21 (.mv (kz 0))] [4, 19, 20, 21] [1]
abbrev f82r5 : Pc := .reg [
 Qd 0 22 (.bin .lss (tm 21) (tm 20))] [4, 19, 20, 21, 22] []
abbrev f82r6 : Pc := .reg [
 Qd 0 23 (.ixS 1 (tm 19) (tm 21)),
 Qd 1 24 (.load false 1 (tm 23)),
 Qd 2 6 (.mv (tm 24))] [4, 6, 19, 20, 21] []
abbrev f82r7 : Pc := .reg [
 Qd 0 25 (.mv (tm 4)),
 Qd 1 26 (.mv (tm 6)),
 Qd 2 27 (.call 125 [(tm 26)]),
 Qd 3 28 (.bin .add (tm 25) (tm 27)),
 Qd 4 4 (.mv (tm 28))] [4, 19, 20, 21] []
abbrev f82r8 : Pc := .reg [
 Qd 0 29 (.bin .add (tm 21) (kz 1)),
 Qd 1 21 (.mv (tm 29))] [4, 19, 20, 21] []
def f82l0 : Pc := (.seq f82r5 (.seq (.cond (tm 22) .skip (.exit 0)) (.seq (.block 1 (.seq f82r6 f82r7)) f82r8)))
theorem f82l0e (C : Cfg) (s : St) : evL C f82l0 s = evL C (.seq f82r5 (.seq (.cond (tm 22) .skip (.exit 0)) (.seq (.block 1 (.seq f82r6 f82r7)) f82r8))) s := rfl
abbrev f82r9 : Pc := .reg [
 Qd 0 30 (.mv (tm 4)),
 Qd 1 31 (.mv (tm 4)),
 Qd 2 32 (.call 86 [(tm 31)]),
 Qd 3 33 (.call 125 [(tm 32)]),
 Qd 4 34 (.bin .add (tm 30) (tm 33)),
 Qd 5 4 (.mv (tm 34))] [4] [11, 16, 19]
abbrev f82r10 : Pc := .reg [
 Qd 0 35 (.mv (tm 4)),
 Qd 1 36 (.lenS (tm 35)),
 Qd 2 37 (.call 125 [(tm 36)]),
 Qd 3 38 (.mv (tm 4)),
 Qd 4 39 (.bin .add (tm 37) (tm 38)),
 Qd 5 2 (.mv (tm 39)),
 Qd 6 3 (.mv (kz 0))] [2, 3] []
abbrev f82b : Pc := (.seq f82r0 (.seq (.seq f82r1 (.cond (tm 9) (.seq f82r2 .ret) .skip)) (.seq f82r3 (.seq (.seq f82r4 (.block 0 (.loop f82l0))) (.seq f82r9 (.seq f82r10 .ret))))))
abbrev f82 : Pfn := ⟨1, 40, [.tmp 2, .tmp 3], f82b⟩
def f82K : Array (List Nat) := #[[1], [1, 9], [2, 3], [1, 4], [4, 19, 20, 21], [4, 19, 20, 21, 22], [4, 6, 19, 20, 21], [4, 19, 20, 21], [4, 19, 20, 21], [4], [2, 3]]
def f82H : Array (List Nat) := #[[], [], [1], [], [1], [], [], [], [], [11, 16, 19], []]
def f82A : Ann := ⟨fun r => f82K.getD r [], fun r => f82H.getD r [], fun r i => ([(4, 8), (4, 3), (4, 2006), (4, 1)] : List (Nat × Nat)).contains (r, i)⟩
theorem f82C : compF Go.Proofs.Tryz.prog f82A 82 = some f82 := by kernel_rfl

abbrev f83r0 : Pc := .reg [
 Qd 0 4 (.nilv 9 1)] [0, 1] [4, 7, 14]
abbrev f83r1 : Pc := .reg [
 Qd 0 6 (.mv (tm 0)),
 Qd 1 7 (.call 57 [(tm 6)]),
 Qd 2 5 (.mv (tm 7))] [0, 1, 5] []
abbrev f83r2 : Pc := .reg [
 Qd 0 8 (.mv (tm 0)),
 Qd 1 9 (.lenL (tm 8)),
 Qd 2 10 (.bin .lss (tm 9) (kz 200))] [1, 5, 10] []
abbrev f83r3 : Pc := .reg [
 Qd 0 11 (.mv (tm 5)),
 Qd 1 12 (.mv (tm 1)),
 Qd 2 13 (.bslT 1 [(tm 12)]),
 Qd 3 14 (.app 9 1 16 (tm 11) (tm 13)),
 Qd 4 5 (.mv (tm 14))] [5] []
abbrev f83r4 : Pc := .reg [
 Qd 0 15 (.mv (tm 5)),
 Qd 1 4 (.mv (tm 15))] [4] []
abbrev f83b : Pc := (.seq f83r0 (.seq f83r1 (.seq (.seq f83r2 (.cond (tm 10) f83r3 .skip)) (.seq f83r4 .ret))))
abbrev f83 : Pfn := ⟨2, 16, [.tmp 4], f83b⟩
def f83K : Array (List Nat) := #[[0, 1], [0, 1, 5], [1, 5, 10], [5], [4]]
def f83H : Array (List Nat) := #[[4, 7, 14], [], [], [], []]
def f83A : Ann := ⟨fun r => f83K.getD r [], fun r => f83H.getD r [], fun r i => ([] : List (Nat × Nat)).contains (r, i)⟩
theorem f83C : compF Go.Proofs.Tryz.prog f83A 83 = some f83 := by kernel_rfl


end Go.Proofs.YtlfjlpleodlkmaaGreatDoor.Pv
