/- The functions' forms, as the pure evaluator takes them; each is what the program's code gives (kernel_rfl). -/
import Derived.Test.YtbocnaoihepjfaaGreatPevA
import Derived.Test.YtbocnaoihepjfaaGreatPevC
import Derived.Test.YtbocnaoihepjfaaGreatProg
import Derived.KernelRfl
namespace Go.Proofs.YtbocnaoihepjfaaGreat.Pv
open Go Go.Pev
/-- switchboard/model.Parts -/
abbrev f73o0 : List (Nat × Pop) := [
  (0, ⟨(some 2), .box 53 3 (.tmp 0), none⟩),
  (1, ⟨(some 4), .nilv 110 4, none⟩)]
abbrev f73r0 : Pc := .reg f73o0 [1, 2] [4, 11, 87]
abbrev f73o1 : List (Nat × Pop) := [
  (0, ⟨(some 5), .nilv 155 4, none⟩)]
abbrev f73r1 : Pc := .reg f73o1 [1, 2, 5] []
abbrev f73o2 : List (Nat × Pop) := [
  (0, ⟨(some 6), .nilv 91 2, none⟩)]
abbrev f73r2 : Pc := .reg f73o2 [1, 2, 5, 6] []
abbrev f73o3 : List (Nat × Pop) := [
  (0, ⟨(some 16), .mv (.tmp 1), none⟩),
  (1, ⟨(some 17), .lenL (.tmp 16), none⟩),
  (2, ⟨(some 18), .mv (.c (.t (.i .i64 0))), none⟩)]
abbrev f73r3 : Pc := .reg f73o3 [2, 5, 6, 16, 17, 18] []
abbrev f73o4 : List (Nat × Pop) := [
  (0, ⟨(some 19), .bin .lss (.tmp 18) (.tmp 17), none⟩)]
abbrev f73r4 : Pc := .reg f73o4 [2, 5, 6, 16, 17, 18, 19] []
abbrev f73o5 : List (Nat × Pop) := [
  (0, ⟨(some 20), .ixS 1 (.tmp 16) (.tmp 18), none⟩),
  (1, ⟨(some 21), .load false 1 (.tmp 20), none⟩),
  (2, ⟨(some 8), .mv (.tmp 21), none⟩)]
abbrev f73r5 : Pc := .reg f73o5 [2, 5, 6, 8, 16, 17, 18] []
abbrev f73o6 : List (Nat × Pop) := [
  (0, ⟨(some 23), .fad 0 (.tmp 2), none⟩),
  (1, ⟨(some 24), .load false 1 (.tmp 23), none⟩),
  (2, ⟨(some 25), .mv (.tmp 8), none⟩),
  (3, ⟨(some 26), .call 109 [(.tmp 24), (.tmp 25)], none⟩),
  (4, ⟨(some 22), .mv (.tmp 26), none⟩),
  (5, ⟨(some 27), .ext 0 (.tmp 22), none⟩),
  (6, ⟨(some 28), .ext 1 (.tmp 22), none⟩),
  (7, ⟨(some 9), .alloc 155 [(.t (.i .i64 0)), (.t (.i .i64 0)), (.t (.i .i64 0)), (.t (.i .i64 0))], none⟩),
  (8, ⟨none, .store 4 (.tmp 9) (.tmp 27), none⟩),
  (9, ⟨(some 10), .mv (.tmp 28), none⟩)]
abbrev f73r6 : Pc := .reg f73o6 [2, 5, 6, 9, 16, 17, 18] []
abbrev f73o7 : List (Nat × Pop) := [
  (0, ⟨(some 29), .mv (.tmp 5), none⟩),
  (1, ⟨(some 30), .load true 4 (.tmp 9), none⟩),
  (2, ⟨(some 31), .bslT 4 [(.tmp 30)], none⟩),
  (3, ⟨(some 32), .app 155 4 32 (.tmp 29) (.tmp 31), none⟩),
  (4, ⟨(some 5), .mv (.tmp 32), none⟩)]
abbrev f73r7 : Pc := .reg f73o7 [2, 5, 6, 9, 16, 17, 18] []
abbrev f73o8 : List (Nat × Pop) := [
  (0, ⟨(some 33), .mv (.tmp 6), none⟩),
  (1, ⟨(some 34), .fad 0 (.tmp 9), none⟩),
  (2, ⟨(some 35), .load false 1 (.tmp 34), none⟩),
  (3, ⟨(some 36), .fad 1 (.tmp 9), none⟩),
  (4, ⟨(some 37), .load false 1 (.tmp 36), none⟩),
  (5, ⟨(some 38), .build [(.t (.i .i64 0)), (.t (.i .i64 0))] [(0, 1, (.tmp 35)), (1, 1, (.tmp 37))], none⟩),
  (6, ⟨(some 39), .bslT 2 [(.tmp 38)], none⟩),
  (7, ⟨(some 40), .app 91 2 16 (.tmp 33) (.tmp 39), none⟩),
  (8, ⟨(some 6), .mv (.tmp 40), none⟩)]
abbrev f73r8 : Pc := .reg f73o8 [2, 5, 6, 16, 17, 18] [9]
abbrev f73o9 : List (Nat × Pop) := [
  (0, ⟨(some 41), .bin .add (.tmp 18) (.c (.t (.i .i64 1))), none⟩),
  (1, ⟨(some 18), .mv (.tmp 41), none⟩)]
abbrev f73r9 : Pc := .reg f73o9 [2, 5, 6, 16, 17, 18] []
def f73l0 : Pc := (.seq f73r4 (.seq (.cond (.tmp 19) .skip (.exit 0)) (.seq (.block 1 (.seq f73r5 (.seq f73r6 (.seq f73r7 f73r8)))) f73r9)))
theorem f73l0e (C : Cfg) (s : St) : evL C f73l0 s = evL C (.seq f73r4 (.seq (.cond (.tmp 19) .skip (.exit 0)) (.seq (.block 1 (.seq f73r5 (.seq f73r6 (.seq f73r7 f73r8)))) f73r9))) s := rfl
abbrev f73o10 : List (Nat × Pop) := [
  (0, ⟨(some 11), .nilv 110 4, none⟩)]
abbrev f73r10 : Pc := .reg f73o10 [2, 5, 6, 11] []
abbrev f73o11 : List (Nat × Pop) := [
  (0, ⟨(some 42), .mv (.tmp 6), none⟩),
  (1, ⟨(some 43), .fad 1 (.tmp 2), none⟩),
  (2, ⟨(some 44), .load false 1 (.tmp 43), none⟩),
  (3, ⟨(some 45), .lenL (.tmp 44), none⟩),
  (4, ⟨(some 46), .fad 2 (.tmp 2), none⟩),
  (5, ⟨(some 47), .load false 1 (.tmp 46), none⟩),
  (6, ⟨(some 48), .call 110 [(.tmp 42), (.tmp 45), (.tmp 47)], none⟩),
  (7, ⟨(some 49), .lenL (.tmp 48), none⟩),
  (8, ⟨(some 50), .mv (.c (.t (.i .i64 0))), none⟩)]
abbrev f73r11 : Pc := .reg f73o11 [5, 6, 11, 48, 49, 50] [2]
abbrev f73o12 : List (Nat × Pop) := [
  (0, ⟨(some 51), .bin .lss (.tmp 50) (.tmp 49), none⟩)]
abbrev f73r12 : Pc := .reg f73o12 [5, 6, 11, 48, 49, 50, 51] []
abbrev f73o13 : List (Nat × Pop) := [
  (0, ⟨(some 52), .mv (.tmp 50), none⟩),
  (1, ⟨(some 53), .ixS 2 (.tmp 48) (.tmp 50), none⟩),
  (2, ⟨(some 54), .load true 2 (.tmp 53), none⟩),
  (3, ⟨(some 13), .alloc 91 [(.t (.i .i64 0)), (.t (.i .i64 0))], none⟩),
  (4, ⟨(some 12), .mv (.tmp 52), none⟩),
  (5, ⟨none, .store 2 (.tmp 13) (.tmp 54), none⟩)]
abbrev f73r13 : Pc := .reg f73o13 [5, 6, 11, 12, 13, 48, 49, 50] []
abbrev f73o14 : List (Nat × Pop) := [
  (0, ⟨(some 55), .load true 2 (.tmp 13), none⟩),
  (1, ⟨(some 56), .mv (.c (.t (.i .i64 0))), none⟩)]
abbrev f73r14 : Pc := .reg f73o14 [5, 6, 11, 12, 48, 49, 50, 55, 56] [13]
abbrev f73o15 : List (Nat × Pop) := [
  (0, ⟨(some 57), .bin .lss (.tmp 56) (.c (.t (.i .i64 2))), none⟩)]
abbrev f73r15 : Pc := .reg f73o15 [5, 6, 11, 12, 48, 49, 50, 55, 56, 57] []
abbrev f73o16 : List (Nat × Pop) := [
  (0, ⟨(some 58), .mv (.tmp 56), none⟩),
  (1, ⟨(some 59), .ixV false 2 1 (.tmp 55) (.tmp 56), none⟩),
  (2, ⟨(some 14), .mv (.tmp 58), none⟩),
  (3, ⟨(some 15), .mv (.tmp 59), none⟩)]
abbrev f73r16 : Pc := .reg f73o16 [5, 6, 11, 12, 14, 15, 48, 49, 50, 55, 56] []
abbrev f73o17 : List (Nat × Pop) := [
  (0, ⟨(some 60), .mv (.tmp 15), none⟩),
  (1, ⟨(some 61), .bin .geq (.tmp 60) (.c (.t (.i .i64 0))), none⟩)]
abbrev f73r17 : Pc := .reg f73o17 [5, 6, 11, 12, 14, 48, 49, 50, 55, 56, 61] []
abbrev f73o18 : List (Nat × Pop) := [
  (0, ⟨(some 62), .mv (.tmp 11), none⟩),
  (1, ⟨(some 63), .mv (.tmp 12), none⟩),
  (2, ⟨(some 64), .mv (.tmp 14), none⟩),
  (3, ⟨(some 65), .mv (.tmp 6), none⟩),
  (4, ⟨(some 66), .mv (.tmp 12), none⟩),
  (5, ⟨(some 67), .mv (.tmp 14), none⟩),
  (6, ⟨(some 68), .ixS 2 (.tmp 65) (.tmp 66), none⟩),
  (7, ⟨(some 69), .ixA 2 1 (.tmp 68) (.tmp 67), none⟩),
  (8, ⟨(some 70), .load false 1 (.tmp 69), none⟩),
  (9, ⟨(some 71), .mv (.tmp 5), none⟩),
  (10, ⟨(some 72), .mv (.tmp 12), none⟩),
  (11, ⟨(some 73), .ixS 4 (.tmp 71) (.tmp 72), none⟩),
  (12, ⟨(some 74), .fad 2 (.tmp 73), none⟩),
  (13, ⟨(some 75), .load false 1 (.tmp 74), none⟩),
  (14, ⟨(some 76), .mv (.tmp 5), none⟩),
  (15, ⟨(some 77), .mv (.tmp 12), none⟩),
  (16, ⟨(some 78), .ixS 4 (.tmp 76) (.tmp 77), none⟩),
  (17, ⟨(some 79), .fad 3 (.tmp 78), none⟩),
  (18, ⟨(some 80), .load false 1 (.tmp 79), none⟩),
  (19, ⟨(some 81), .bslF 1 [(.tmp 75), (.tmp 80)], none⟩),
  (20, ⟨(some 82), .mv (.tmp 14), none⟩),
  (21, ⟨(some 83), .ixS 1 (.tmp 81) (.tmp 82), none⟩),
  (22, ⟨(some 84), .load false 1 (.tmp 83), none⟩),
  (23, ⟨(some 85), .build [(.t (.i .i64 0)), (.t (.i .i64 0)), (.t (.i .i64 0)), (.t (.i .i64 0))] [(0, 1, (.tmp 63)), (1, 1, (.tmp 64)), (2, 1, (.tmp 70)), (3, 1, (.tmp 84))], none⟩),
  (24, ⟨(some 86), .bslT 4 [(.tmp 85)], none⟩),
  (25, ⟨(some 87), .app 110 4 32 (.tmp 62) (.tmp 86), none⟩),
  (26, ⟨(some 11), .mv (.tmp 87), none⟩)]
abbrev f73r18 : Pc := .reg f73o18 [5, 6, 11, 12, 48, 49, 50, 55, 56] []
abbrev f73o19 : List (Nat × Pop) := [
  (0, ⟨(some 88), .bin .add (.tmp 56) (.c (.t (.i .i64 1))), none⟩),
  (1, ⟨(some 56), .mv (.tmp 88), none⟩)]
abbrev f73r19 : Pc := .reg f73o19 [5, 6, 11, 12, 48, 49, 50, 55, 56] []
def f73l1 : Pc := (.seq f73r15 (.seq (.cond (.tmp 57) .skip (.exit 4)) (.seq (.block 5 (.seq f73r16 (.seq f73r17 (.cond (.tmp 61) f73r18 .skip)))) f73r19)))
theorem f73l1e (C : Cfg) (s : St) : evL C f73l1 s = evL C (.seq f73r15 (.seq (.cond (.tmp 57) .skip (.exit 4)) (.seq (.block 5 (.seq f73r16 (.seq f73r17 (.cond (.tmp 61) f73r18 .skip)))) f73r19))) s := rfl
abbrev f73o20 : List (Nat × Pop) := [
  (0, ⟨(some 89), .bin .add (.tmp 50) (.c (.t (.i .i64 1))), none⟩),
  (1, ⟨(some 50), .mv (.tmp 89), none⟩)]
abbrev f73r20 : Pc := .reg f73o20 [5, 6, 11, 48, 49, 50] []
def f73l2 : Pc := (.seq f73r12 (.seq (.cond (.tmp 51) .skip (.exit 2)) (.seq (.block 3 (.seq f73r13 (.seq f73r14 (.block 4 (.loop f73l1))))) f73r20)))
theorem f73l2e (C : Cfg) (s : St) : evL C f73l2 s = evL C (.seq f73r12 (.seq (.cond (.tmp 51) .skip (.exit 2)) (.seq (.block 3 (.seq f73r13 (.seq f73r14 (.block 4 (.loop f73l1))))) f73r20))) s := rfl
abbrev f73o21 : List (Nat × Pop) := [
  (0, ⟨(some 90), .mv (.tmp 11), none⟩),
  (1, ⟨(some 4), .mv (.tmp 90), none⟩)]
abbrev f73r21 : Pc := .reg f73o21 [4] [5, 6, 32, 40]
abbrev f73b : Pc := (.seq f73r0 (.seq f73r1 (.seq f73r2 (.seq (.seq f73r3 (.block 0 (.loop f73l0))) (.seq f73r10 (.seq (.seq f73r11 (.block 2 (.loop f73l2))) (.seq f73r21 .ret)))))))
abbrev f73 : Pfn := ⟨2, 91, [.tmp 4], f73b⟩
def f73K : Array (List Nat) := #[[1, 2], [1, 2, 5], [1, 2, 5, 6], [2, 5, 6, 16, 17, 18], [2, 5, 6, 16, 17, 18, 19], [2, 5, 6, 8, 16, 17, 18], [2, 5, 6, 9, 16, 17, 18], [2, 5, 6, 9, 16, 17, 18], [2, 5, 6, 16, 17, 18], [2, 5, 6, 16, 17, 18], [2, 5, 6, 11], [5, 6, 11, 48, 49, 50], [5, 6, 11, 48, 49, 50, 51], [5, 6, 11, 12, 13, 48, 49, 50], [5, 6, 11, 12, 48, 49, 50, 55, 56], [5, 6, 11, 12, 48, 49, 50, 55, 56, 57], [5, 6, 11, 12, 14, 15, 48, 49, 50, 55, 56], [5, 6, 11, 12, 14, 48, 49, 50, 55, 56, 61], [5, 6, 11, 12, 48, 49, 50, 55, 56], [5, 6, 11, 12, 48, 49, 50, 55, 56], [5, 6, 11, 48, 49, 50], [4]]
def f73H : Array (List Nat) := #[[4, 11, 87], [], [], [], [], [], [], [], [9], [], [], [2], [], [], [13], [], [], [], [], [], [], [5, 6, 32, 40]]
def f73A : Ann := ⟨fun r => f73K.getD r [], fun r => f73H.getD r [], fun r i => ([] : List (Nat × Nat)).contains (r, i)⟩
theorem f73C : compF Go.Proofs.Tryz.prog f73A 73 = some f73 := by kernel_rfl

/-- slices.Contains[[]bool,bool] -/
abbrev f74o0 : List (Nat × Pop) := [
  (0, ⟨(some 4), .mv (.c (.t (.b false))), none⟩)]
abbrev f74r0 : Pc := .reg f74o0 [0, 1] []
abbrev f74o1 : List (Nat × Pop) := [
  (0, ⟨(some 5), .mv (.tmp 0), none⟩),
  (1, ⟨(some 6), .mv (.tmp 1), none⟩),
  (2, ⟨(some 7), .call 111 [(.tmp 5), (.tmp 6)], none⟩),
  (3, ⟨(some 8), .bin .geq (.tmp 7) (.c (.t (.i .i64 0))), none⟩),
  (4, ⟨(some 4), .mv (.tmp 8), none⟩)]
abbrev f74r1 : Pc := .reg f74o1 [4] []
abbrev f74b : Pc := (.seq f74r0 (.seq f74r1 .ret))
abbrev f74 : Pfn := ⟨2, 9, [.tmp 4], f74b⟩
def f74K : Array (List Nat) := #[[0, 1], [4]]
def f74H : Array (List Nat) := #[[], []]
def f74A : Ann := ⟨fun r => f74K.getD r [], fun r => f74H.getD r [], fun r i => ([] : List (Nat × Nat)).contains (r, i)⟩
theorem f74C : compF Go.Proofs.Tryz.prog f74A 74 = some f74 := by kernel_rfl

/-- switchboard/model.Combine -/
abbrev f75o0 : List (Nat × Pop) := [
  (0, ⟨(some 6), .nilv 42 1, none⟩)]
abbrev f75r0 : Pc := .reg f75o0 [0, 1, 2] [6, 13]
abbrev f75o1 : List (Nat × Pop) := [
  (0, ⟨(some 12), .mv (.tmp 0), none⟩),
  (1, ⟨(some 13), .call 35 [(.tmp 12)], none⟩),
  (2, ⟨(some 7), .mv (.tmp 13), none⟩)]
abbrev f75r1 : Pc := .reg f75o1 [1, 2, 7] []
abbrev f75o2 : List (Nat × Pop) := [
  (0, ⟨(some 14), .mv (.tmp 1), none⟩),
  (1, ⟨(some 15), .lenL (.tmp 14), none⟩),
  (2, ⟨(some 16), .mv (.c (.t (.i .i64 0))), none⟩)]
abbrev f75r2 : Pc := .reg f75o2 [2, 7, 14, 15, 16] []
abbrev f75o3 : List (Nat × Pop) := [
  (0, ⟨(some 17), .bin .lss (.tmp 16) (.tmp 15), none⟩)]
abbrev f75r3 : Pc := .reg f75o3 [2, 7, 14, 15, 16, 17] []
abbrev f75o4 : List (Nat × Pop) := [
  (0, ⟨(some 18), .mv (.tmp 16), none⟩),
  (1, ⟨(some 19), .ixS 4 (.tmp 14) (.tmp 16), none⟩),
  (2, ⟨(some 20), .load true 4 (.tmp 19), none⟩),
  (3, ⟨(some 9), .alloc 110 [(.t (.i .i64 0)), (.t (.i .i64 0)), (.t (.i .i64 0)), (.t (.i .i64 0))], none⟩),
  (4, ⟨(some 8), .mv (.tmp 18), none⟩),
  (5, ⟨none, .store 4 (.tmp 9) (.tmp 20), none⟩)]
abbrev f75r4 : Pc := .reg f75o4 [2, 7, 8, 9, 14, 15, 16] []
abbrev f75o5 : List (Nat × Pop) := [
  (0, ⟨(some 21), .mv (.tmp 8), none⟩),
  (1, ⟨(some 22), .mv (.tmp 2), none⟩),
  (2, ⟨(some 23), .lenL (.tmp 22), none⟩),
  (3, ⟨(some 24), .bin .geq (.tmp 21) (.tmp 23), none⟩),
  (4, ⟨(some 25), .mv (.tmp 24), none⟩),
  (5, ⟨(some 26), .fad 0 (.tmp 9), (some (25, false))⟩),
  (6, ⟨(some 27), .load false 1 (.tmp 26), (some (25, false))⟩),
  (7, ⟨(some 28), .bin .lss (.tmp 27) (.c (.t (.i .i64 0))), (some (25, false))⟩),
  (8, ⟨(some 29), .pick (.tmp 25) (.c (.t (.b true))) (.tmp 28), none⟩),
  (9, ⟨(some 30), .mv (.tmp 29), none⟩),
  (10, ⟨(some 31), .fad 0 (.tmp 9), (some (30, false))⟩),
  (11, ⟨(some 32), .load false 1 (.tmp 31), (some (30, false))⟩),
  (12, ⟨(some 33), .mv (.tmp 7), (some (30, false))⟩),
  (13, ⟨(some 34), .lenL (.tmp 33), (some (30, false))⟩),
  (14, ⟨(some 35), .bin .geq (.tmp 32) (.tmp 34), (some (30, false))⟩),
  (15, ⟨(some 36), .pick (.tmp 30) (.c (.t (.b true))) (.tmp 35), none⟩)]
abbrev f75r5 : Pc := .reg f75o5 [2, 7, 8, 9, 14, 15, 16, 36] []
abbrev f75o6 : List (Nat × Pop) := [
  (0, ⟨(some 38), .mv (.tmp 7), none⟩),
  (1, ⟨(some 39), .fad 0 (.tmp 9), none⟩),
  (2, ⟨(some 40), .load false 1 (.tmp 39), none⟩),
  (3, ⟨(some 41), .ixS 1 (.tmp 38) (.tmp 40), none⟩),
  (4, ⟨(some 42), .load false 1 (.tmp 41), none⟩),
  (5, ⟨(some 43), .mv (.tmp 2), none⟩),
  (6, ⟨(some 44), .mv (.tmp 8), none⟩),
  (7, ⟨(some 45), .ixS 1 (.tmp 43) (.tmp 44), none⟩),
  (8, ⟨(some 46), .load false 1 (.tmp 45), none⟩),
  (9, ⟨(some 47), .fad 3 (.tmp 9), none⟩),
  (10, ⟨(some 48), .load false 1 (.tmp 47), none⟩),
  (11, ⟨(some 49), .callq 113 [(.tmp 46), (.tmp 48)], none⟩),
  (12, ⟨(some 50), .callq 112 [(.tmp 42), (.tmp 49)], none⟩),
  (13, ⟨(some 37), .mv (.tmp 50), none⟩),
  (14, ⟨(some 51), .ext 0 (.tmp 37), none⟩),
  (15, ⟨(some 52), .ext 1 (.tmp 37), none⟩),
  (16, ⟨(some 10), .mv (.tmp 51), none⟩),
  (17, ⟨(some 11), .mv (.tmp 52), none⟩)]
abbrev f75r6 : Pc := .reg f75o6 [2, 7, 9, 10, 11, 14, 15, 16] []
abbrev f75o7 : List (Nat × Pop) := [
  (0, ⟨(some 53), .mv (.tmp 11), none⟩)]
abbrev f75r7 : Pc := .reg f75o7 [2, 7, 9, 10, 14, 15, 16, 53] []
abbrev f75o8 : List (Nat × Pop) := [
  (0, ⟨(some 54), .mv (.tmp 7), none⟩),
  (1, ⟨(some 55), .fad 0 (.tmp 9), none⟩),
  (2, ⟨(some 56), .load false 1 (.tmp 55), none⟩),
  (3, ⟨(some 57), .mv (.tmp 10), none⟩),
  (4, ⟨(some 58), .ixS 1 (.tmp 54) (.tmp 56), none⟩),
  (5, ⟨none, .store 1 (.tmp 58) (.tmp 57), none⟩)]
abbrev f75r8 : Pc := .reg f75o8 [2, 7, 14, 15, 16] [9]
abbrev f75o9 : List (Nat × Pop) := [
  (0, ⟨(some 59), .bin .add (.tmp 16) (.c (.t (.i .i64 1))), none⟩),
  (1, ⟨(some 16), .mv (.tmp 59), none⟩)]
abbrev f75r9 : Pc := .reg f75o9 [2, 7, 14, 15, 16] [9]
def f75l0 : Pc := (.seq f75r3 (.seq (.cond (.tmp 17) .skip (.exit 0)) (.seq (.block 1 (.seq f75r4 (.seq (.seq f75r5 (.cond (.tmp 36) (.exit 1) .skip)) (.seq f75r6 (.seq f75r7 (.cond (.tmp 53) f75r8 .skip)))))) f75r9)))
theorem f75l0e (C : Cfg) (s : St) : evL C f75l0 s = evL C (.seq f75r3 (.seq (.cond (.tmp 17) .skip (.exit 0)) (.seq (.block 1 (.seq f75r4 (.seq (.seq f75r5 (.cond (.tmp 36) (.exit 1) .skip)) (.seq f75r6 (.seq f75r7 (.cond (.tmp 53) f75r8 .skip)))))) f75r9))) s := rfl
abbrev f75o10 : List (Nat × Pop) := [
  (0, ⟨(some 60), .mv (.tmp 7), none⟩),
  (1, ⟨(some 6), .mv (.tmp 60), none⟩)]
abbrev f75r10 : Pc := .reg f75o10 [6] []
abbrev f75b : Pc := (.seq f75r0 (.seq f75r1 (.seq (.seq f75r2 (.block 0 (.loop f75l0))) (.seq f75r10 .ret))))
abbrev f75 : Pfn := ⟨3, 61, [.tmp 6], f75b⟩
def f75K : Array (List Nat) := #[[0, 1, 2], [1, 2, 7], [2, 7, 14, 15, 16], [2, 7, 14, 15, 16, 17], [2, 7, 8, 9, 14, 15, 16], [2, 7, 8, 9, 14, 15, 16, 36], [2, 7, 9, 10, 11, 14, 15, 16], [2, 7, 9, 10, 14, 15, 16, 53], [2, 7, 14, 15, 16], [2, 7, 14, 15, 16], [6]]
def f75H : Array (List Nat) := #[[6, 13], [], [], [], [], [], [], [], [9], [9], []]
def f75A : Ann := ⟨fun r => f75K.getD r [], fun r => f75H.getD r [], fun r i => ([] : List (Nat × Nat)).contains (r, i)⟩
theorem f75C : compF Go.Proofs.Tryz.prog f75A 75 = some f75 := by kernel_rfl

/-- switchboard/switchboardref03.Right -/
abbrev f76o0 : List (Nat × Pop) := [
  (0, ⟨(some 6), .mv (.c (.t (.b false))), none⟩)]
abbrev f76r0 : Pc := .reg f76o0 [0, 1, 2] []
abbrev f76o1 : List (Nat × Pop) := [
  (0, ⟨(some 9), .mv (.tmp 0), none⟩),
  (1, ⟨(some 10), .lenL (.tmp 9), none⟩),
  (2, ⟨(some 11), .mv (.tmp 1), none⟩),
  (3, ⟨(some 12), .bin .neq (.tmp 10) (.tmp 11), none⟩)]
abbrev f76r1 : Pc := .reg f76o1 [0, 2, 12] []
abbrev f76o2 : List (Nat × Pop) := [
  (0, ⟨(some 6), .mv (.c (.t (.b false))), none⟩)]
abbrev f76r2 : Pc := .reg f76o2 [6] []
abbrev f76o3 : List (Nat × Pop) := [
  (0, ⟨(some 7), .mv (.c (.t (.i .i64 0))), none⟩)]
abbrev f76r3 : Pc := .reg f76o3 [0, 2, 7] []
abbrev f76o4 : List (Nat × Pop) := [
  (0, ⟨(some 13), .mv (.tmp 7), none⟩),
  (1, ⟨(some 14), .mv (.tmp 0), none⟩),
  (2, ⟨(some 15), .lenL (.tmp 14), none⟩),
  (3, ⟨(some 16), .bin .lss (.tmp 13) (.tmp 15), none⟩)]
abbrev f76r4 : Pc := .reg f76o4 [0, 2, 7, 16] []
abbrev f76o6 : List (Nat × Pop) := [
  (0, ⟨(some 19), .mv (.tmp 0), none⟩),
  (1, ⟨(some 20), .mv (.tmp 7), none⟩),
  (2, ⟨(some 21), .ixS 1 (.tmp 19) (.tmp 20), none⟩),
  (3, ⟨(some 22), .load false 1 (.tmp 21), none⟩),
  (4, ⟨(some 23), .lenL (.tmp 22), none⟩),
  (5, ⟨(some 24), .mv (.tmp 2), none⟩),
  (6, ⟨(some 25), .bin .neq (.tmp 23) (.tmp 24), none⟩)]
abbrev f76r6 : Pc := .reg f76o6 [0, 2, 7, 25] []
abbrev f76o7 : List (Nat × Pop) := [
  (0, ⟨(some 6), .mv (.c (.t (.b false))), none⟩)]
abbrev f76r7 : Pc := .reg f76o7 [6] []
abbrev f76o8 : List (Nat × Pop) := [
  (0, ⟨(some 8), .mv (.c (.t (.i .i64 0))), none⟩)]
abbrev f76r8 : Pc := .reg f76o8 [0, 2, 7, 8] []
abbrev f76o9 : List (Nat × Pop) := [
  (0, ⟨(some 26), .mv (.tmp 8), none⟩),
  (1, ⟨(some 27), .mv (.tmp 0), none⟩),
  (2, ⟨(some 28), .mv (.tmp 7), none⟩),
  (3, ⟨(some 29), .ixS 1 (.tmp 27) (.tmp 28), none⟩),
  (4, ⟨(some 30), .load false 1 (.tmp 29), none⟩),
  (5, ⟨(some 31), .lenL (.tmp 30), none⟩),
  (6, ⟨(some 32), .bin .lss (.tmp 26) (.tmp 31), none⟩)]
abbrev f76r9 : Pc := .reg f76o9 [0, 2, 7, 8, 32] []
abbrev f76o11 : List (Nat × Pop) := [
  (0, ⟨(some 35), .mv (.tmp 0), none⟩),
  (1, ⟨(some 36), .mv (.tmp 7), none⟩),
  (2, ⟨(some 37), .ixS 1 (.tmp 35) (.tmp 36), none⟩),
  (3, ⟨(some 38), .load false 1 (.tmp 37), none⟩),
  (4, ⟨(some 39), .mv (.tmp 8), none⟩),
  (5, ⟨(some 40), .ixS 1 (.tmp 38) (.tmp 39), none⟩),
  (6, ⟨(some 41), .load false 1 (.tmp 40), none⟩),
  (7, ⟨(some 42), .bin .gtr (.tmp 41) (.c (.t (.i .i64 2147483647))), none⟩),
  (8, ⟨(some 43), .mv (.tmp 42), none⟩),
  (9, ⟨(some 44), .mv (.tmp 0), (some (43, false))⟩),
  (10, ⟨(some 45), .mv (.tmp 7), (some (43, false))⟩),
  (11, ⟨(some 46), .ixS 1 (.tmp 44) (.tmp 45), (some (43, false))⟩),
  (12, ⟨(some 47), .load false 1 (.tmp 46), (some (43, false))⟩),
  (13, ⟨(some 48), .mv (.tmp 8), (some (43, false))⟩),
  (14, ⟨(some 49), .ixS 1 (.tmp 47) (.tmp 48), (some (43, false))⟩),
  (15, ⟨(some 50), .load false 1 (.tmp 49), (some (43, false))⟩),
  (16, ⟨(some 51), .bin .lss (.tmp 50) (.c (.t (.i .i64 (-2147483647)))), (some (43, false))⟩),
  (17, ⟨(some 52), .pick (.tmp 43) (.c (.t (.b true))) (.tmp 51), none⟩)]
abbrev f76r11 : Pc := .reg f76o11 [0, 2, 7, 8, 52] []
abbrev f76o12 : List (Nat × Pop) := [
  (0, ⟨(some 6), .mv (.c (.t (.b false))), none⟩)]
abbrev f76r12 : Pc := .reg f76o12 [6] []
abbrev f76o10 : List (Nat × Pop) := [
  (0, ⟨(some 33), .mv (.tmp 8), none⟩),
  (1, ⟨(some 34), .bin .add (.tmp 33) (.c (.t (.i .i64 1))), none⟩),
  (2, ⟨(some 8), .mv (.tmp 34), none⟩)]
abbrev f76r10 : Pc := .reg f76o10 [0, 2, 7, 8] []
def f76l0 : Pc := (.seq (.seq f76r9 (.cond (.tmp 32) .skip (.exit 2))) (.seq (.block 3 (.seq f76r11 (.cond (.tmp 52) (.seq f76r12 .ret) .skip))) f76r10))
theorem f76l0e (C : Cfg) (s : St) : evL C f76l0 s = evL C (.seq (.seq f76r9 (.cond (.tmp 32) .skip (.exit 2))) (.seq (.block 3 (.seq f76r11 (.cond (.tmp 52) (.seq f76r12 .ret) .skip))) f76r10)) s := rfl
abbrev f76o5 : List (Nat × Pop) := [
  (0, ⟨(some 17), .mv (.tmp 7), none⟩),
  (1, ⟨(some 18), .bin .add (.tmp 17) (.c (.t (.i .i64 1))), none⟩),
  (2, ⟨(some 7), .mv (.tmp 18), none⟩)]
abbrev f76r5 : Pc := .reg f76o5 [0, 2, 7] []
def f76l1 : Pc := (.seq (.seq f76r4 (.cond (.tmp 16) .skip (.exit 0))) (.seq (.block 1 (.seq (.seq f76r6 (.cond (.tmp 25) (.seq f76r7 .ret) .skip)) (.seq f76r8 (.block 2 (.loop f76l0))))) f76r5))
theorem f76l1e (C : Cfg) (s : St) : evL C f76l1 s = evL C (.seq (.seq f76r4 (.cond (.tmp 16) .skip (.exit 0))) (.seq (.block 1 (.seq (.seq f76r6 (.cond (.tmp 25) (.seq f76r7 .ret) .skip)) (.seq f76r8 (.block 2 (.loop f76l0))))) f76r5)) s := rfl
abbrev f76o13 : List (Nat × Pop) := [
  (0, ⟨(some 6), .mv (.c (.t (.b true))), none⟩)]
abbrev f76r13 : Pc := .reg f76o13 [6] []
abbrev f76b : Pc := (.seq f76r0 (.seq (.seq f76r1 (.cond (.tmp 12) (.seq f76r2 .ret) .skip)) (.seq (.seq f76r3 (.block 0 (.loop f76l1))) (.seq f76r13 .ret))))
abbrev f76 : Pfn := ⟨3, 53, [.tmp 6], f76b⟩
def f76K : Array (List Nat) := #[[0, 1, 2], [0, 2, 12], [6], [0, 2, 7], [0, 2, 7, 16], [0, 2, 7], [0, 2, 7, 25], [6], [0, 2, 7, 8], [0, 2, 7, 8, 32], [0, 2, 7, 8], [0, 2, 7, 8, 52], [6], [6]]
def f76H : Array (List Nat) := #[[], [], [], [], [], [], [], [], [], [], [], [], [], []]
def f76A : Ann := ⟨fun r => f76K.getD r [], fun r => f76H.getD r [], fun r i => ([] : List (Nat × Nat)).contains (r, i)⟩
theorem f76C : compF Go.Proofs.Tryz.prog f76A 76 = some f76 := by kernel_rfl

/-- switchboard/switchboardref11.Right -/
abbrev f77o0 : List (Nat × Pop) := [
  (0, ⟨(some 2), .box 67 2 (.tmp 0), none⟩),
  (1, ⟨(some 4), .mv (.c (.t (.b false))), none⟩)]
abbrev f77r0 : Pc := .reg f77o0 [1, 2] []
abbrev f77o1 : List (Nat × Pop) := [
  (0, ⟨(some 6), .fad 0 (.tmp 2), none⟩),
  (1, ⟨(some 7), .load false 1 (.tmp 6), none⟩),
  (2, ⟨(some 8), .lenL (.tmp 7), none⟩),
  (3, ⟨(some 5), .mv (.tmp 8), none⟩)]
abbrev f77r1 : Pc := .reg f77o1 [1, 2, 5] []
abbrev f77o2 : List (Nat × Pop) := [
  (0, ⟨(some 9), .mv (.tmp 1), none⟩),
  (1, ⟨(some 10), .bin .lss (.tmp 9) (.c (.t (.i .i64 1))), none⟩),
  (2, ⟨(some 11), .mv (.tmp 10), none⟩),
  (3, ⟨(some 12), .mv (.tmp 1), (some (11, false))⟩),
  (4, ⟨(some 13), .bin .gtr (.tmp 12) (.c (.t (.i .i64 8))), (some (11, false))⟩),
  (5, ⟨(some 14), .pick (.tmp 11) (.c (.t (.b true))) (.tmp 13), none⟩),
  (6, ⟨(some 15), .mv (.tmp 14), none⟩),
  (7, ⟨(some 16), .mv (.tmp 5), (some (15, false))⟩),
  (8, ⟨(some 17), .bin .lss (.tmp 16) (.c (.t (.i .i64 1))), (some (15, false))⟩),
  (9, ⟨(some 18), .pick (.tmp 15) (.c (.t (.b true))) (.tmp 17), none⟩),
  (10, ⟨(some 19), .mv (.tmp 18), none⟩),
  (11, ⟨(some 20), .mv (.tmp 5), (some (19, false))⟩),
  (12, ⟨(some 21), .bin .gtr (.tmp 20) (.c (.t (.i .i64 8))), (some (19, false))⟩),
  (13, ⟨(some 22), .pick (.tmp 19) (.c (.t (.b true))) (.tmp 21), none⟩)]
abbrev f77r2 : Pc := .reg f77o2 [1, 2, 5, 22] []
abbrev f77o3 : List (Nat × Pop) := [
  (0, ⟨(some 4), .mv (.c (.t (.b false))), none⟩)]
abbrev f77r3 : Pc := .reg f77o3 [4] [2]
abbrev f77o4 : List (Nat × Pop) := [
  (0, ⟨(some 23), .fad 0 (.tmp 2), none⟩),
  (1, ⟨(some 24), .load false 1 (.tmp 23), none⟩),
  (2, ⟨(some 25), .mv (.tmp 5), none⟩),
  (3, ⟨(some 26), .mv (.tmp 1), none⟩),
  (4, ⟨(some 27), .call 76 [(.tmp 24), (.tmp 25), (.tmp 26)], none⟩),
  (5, ⟨(some 28), .mv (.tmp 27), none⟩),
  (6, ⟨(some 29), .fad 1 (.tmp 2), (some (28, true))⟩),
  (7, ⟨(some 30), .load false 1 (.tmp 29), (some (28, true))⟩),
  (8, ⟨(some 31), .mv (.tmp 1), (some (28, true))⟩),
  (9, ⟨(some 32), .mv (.tmp 5), (some (28, true))⟩),
  (10, ⟨(some 33), .call 76 [(.tmp 30), (.tmp 31), (.tmp 32)], (some (28, true))⟩),
  (11, ⟨(some 34), .pick (.tmp 28) (.tmp 33) (.c (.t (.b false))), none⟩),
  (12, ⟨(some 4), .mv (.tmp 34), none⟩)]
abbrev f77r4 : Pc := .reg f77o4 [4] [2]
abbrev f77b : Pc := (.seq f77r0 (.seq f77r1 (.seq (.seq f77r2 (.cond (.tmp 22) (.seq f77r3 .ret) .skip)) (.seq f77r4 .ret))))
abbrev f77 : Pfn := ⟨2, 35, [.tmp 4], f77b⟩
def f77K : Array (List Nat) := #[[1, 2], [1, 2, 5], [1, 2, 5, 22], [4], [4]]
def f77H : Array (List Nat) := #[[], [], [], [2], [2]]
def f77A : Ann := ⟨fun r => f77K.getD r [], fun r => f77H.getD r [], fun r i => ([] : List (Nat × Nat)).contains (r, i)⟩
theorem f77C : compF Go.Proofs.Tryz.prog f77A 77 = some f77 := by kernel_rfl

/-- switchboard/switchboardref06.over -/
abbrev f78o0 : List (Nat × Pop) := [
  (0, ⟨(some 4), .mv (.c (.t (.i .i64 0))), none⟩)]
abbrev f78r0 : Pc := .reg f78o0 [0, 1] []
abbrev f78o1 : List (Nat × Pop) := [
  (0, ⟨(some 5), .mv (.c (.t (.i .i64 0))), none⟩),
  (1, ⟨(some 6), .mv (.c (.t (.i .i64 1))), none⟩)]
abbrev f78r1 : Pc := .reg f78o1 [0, 1, 5, 6] []
abbrev f78o2 : List (Nat × Pop) := [
  (0, ⟨(some 7), .mv (.tmp 0), none⟩),
  (1, ⟨(some 8), .bin .gtr (.tmp 7) (.c (.t (.i .i64 0))), none⟩),
  (2, ⟨(some 9), .mv (.tmp 8), none⟩),
  (3, ⟨(some 10), .mv (.tmp 1), (some (9, false))⟩),
  (4, ⟨(some 11), .bin .gtr (.tmp 10) (.c (.t (.i .i64 0))), (some (9, false))⟩),
  (5, ⟨(some 12), .pick (.tmp 9) (.c (.t (.b true))) (.tmp 11), none⟩)]
abbrev f78r2 : Pc := .reg f78o2 [0, 1, 5, 6, 12] []
abbrev f78o3 : List (Nat × Pop) := [
  (0, ⟨(some 13), .mv (.tmp 0), none⟩),
  (1, ⟨(some 14), .bin .rem (.tmp 13) (.c (.t (.i .i64 2))), none⟩),
  (2, ⟨(some 15), .mv (.tmp 1), none⟩),
  (3, ⟨(some 16), .bin .rem (.tmp 15) (.c (.t (.i .i64 2))), none⟩),
  (4, ⟨(some 17), .bin .neq (.tmp 14) (.tmp 16), none⟩)]
abbrev f78r3 : Pc := .reg f78o3 [0, 1, 5, 6, 17] []
abbrev f78o4 : List (Nat × Pop) := [
  (0, ⟨(some 18), .mv (.tmp 5), none⟩),
  (1, ⟨(some 19), .mv (.tmp 6), none⟩),
  (2, ⟨(some 20), .bin .add (.tmp 18) (.tmp 19), none⟩),
  (3, ⟨(some 5), .mv (.tmp 20), none⟩)]
abbrev f78r4 : Pc := .reg f78o4 [0, 1, 5, 6] []
abbrev f78o5 : List (Nat × Pop) := [
  (0, ⟨(some 21), .mv (.tmp 0), none⟩),
  (1, ⟨(some 22), .bin .quo (.tmp 21) (.c (.t (.i .i64 2))), none⟩),
  (2, ⟨(some 23), .mv (.tmp 1), none⟩),
  (3, ⟨(some 24), .bin .quo (.tmp 23) (.c (.t (.i .i64 2))), none⟩),
  (4, ⟨(some 25), .mv (.tmp 6), none⟩),
  (5, ⟨(some 26), .bin .mul (.c (.t (.i .i64 2))) (.tmp 25), none⟩),
  (6, ⟨(some 0), .mv (.tmp 22), none⟩),
  (7, ⟨(some 1), .mv (.tmp 24), none⟩),
  (8, ⟨(some 6), .mv (.tmp 26), none⟩)]
abbrev f78r5 : Pc := .reg f78o5 [0, 1, 5, 6] []
def f78l0 : Pc := (.seq (.seq f78r2 (.cond (.tmp 12) .skip (.exit 0))) (.block 1 (.seq (.seq f78r3 (.cond (.tmp 17) f78r4 .skip)) f78r5)))
theorem f78l0e (C : Cfg) (s : St) : evL C f78l0 s = evL C (.seq (.seq f78r2 (.cond (.tmp 12) .skip (.exit 0))) (.block 1 (.seq (.seq f78r3 (.cond (.tmp 17) f78r4 .skip)) f78r5))) s := rfl
abbrev f78o6 : List (Nat × Pop) := [
  (0, ⟨(some 27), .mv (.tmp 5), none⟩),
  (1, ⟨(some 4), .mv (.tmp 27), none⟩)]
abbrev f78r6 : Pc := .reg f78o6 [4] []
abbrev f78b : Pc := (.seq f78r0 (.seq f78r1 (.seq (.block 0 (.loop f78l0)) (.seq f78r6 .ret))))
abbrev f78 : Pfn := ⟨2, 28, [.tmp 4], f78b⟩
def f78K : Array (List Nat) := #[[0, 1], [0, 1, 5, 6], [0, 1, 5, 6, 12], [0, 1, 5, 6, 17], [0, 1, 5, 6], [0, 1, 5, 6], [4]]
def f78H : Array (List Nat) := #[[], [], [], [], [], [], []]
def f78A : Ann := ⟨fun r => f78K.getD r [], fun r => f78H.getD r [], fun r i => ([] : List (Nat × Nat)).contains (r, i)⟩
theorem f78C : compF Go.Proofs.Tryz.prog f78A 78 = some f78 := by kernel_rfl

/-- switchboard/switchboardref03.Apply -/
abbrev f79o0 : List (Nat × Pop) := [
  (0, ⟨(some 4), .nilv 3 1, none⟩),
  (1, ⟨(some 5), .mv (.c (.t (.b false))), none⟩)]
abbrev f79r0 : Pc := .reg f79o0 [0, 1] [4, 6, 30]
abbrev f79o1 : List (Nat × Pop) := [
  (0, ⟨(some 6), .nilv 3 1, none⟩)]
abbrev f79r1 : Pc := .reg f79o1 [0, 1, 6] []
abbrev f79o2 : List (Nat × Pop) := [
  (0, ⟨(some 7), .mv (.c (.t (.i .i64 0))), none⟩)]
abbrev f79r2 : Pc := .reg f79o2 [0, 1, 6, 7] []
abbrev f79o3 : List (Nat × Pop) := [
  (0, ⟨(some 8), .mv (.tmp 7), none⟩),
  (1, ⟨(some 9), .mv (.tmp 0), none⟩),
  (2, ⟨(some 10), .lenL (.tmp 9), none⟩),
  (3, ⟨(some 11), .bin .lss (.tmp 8) (.tmp 10), none⟩)]
abbrev f79r3 : Pc := .reg f79o3 [0, 1, 6, 7, 11] []
abbrev f79o5 : List (Nat × Pop) := [
  (0, ⟨(some 14), .mv (.tmp 0), none⟩),
  (1, ⟨(some 15), .mv (.tmp 7), none⟩),
  (2, ⟨(some 16), .ixS 1 (.tmp 14) (.tmp 15), none⟩),
  (3, ⟨(some 17), .load false 1 (.tmp 16), none⟩),
  (4, ⟨(some 18), .lenL (.tmp 17), none⟩),
  (5, ⟨(some 19), .mv (.tmp 1), none⟩),
  (6, ⟨(some 20), .lenL (.tmp 19), none⟩),
  (7, ⟨(some 21), .bin .neq (.tmp 18) (.tmp 20), none⟩)]
abbrev f79r5 : Pc := .reg f79o5 [0, 1, 6, 7, 21] []
abbrev f79o6 : List (Nat × Pop) := [
  (0, ⟨(some 4), .nilv 3 1, none⟩),
  (1, ⟨(some 5), .mv (.c (.t (.b false))), none⟩)]
abbrev f79r6 : Pc := .reg f79o6 [4, 5] []
abbrev f79o7 : List (Nat × Pop) := [
  (0, ⟨(some 22), .mv (.tmp 6), none⟩),
  (1, ⟨(some 23), .mv (.tmp 0), none⟩),
  (2, ⟨(some 24), .mv (.tmp 7), none⟩),
  (3, ⟨(some 25), .ixS 1 (.tmp 23) (.tmp 24), none⟩),
  (4, ⟨(some 26), .load false 1 (.tmp 25), none⟩),
  (5, ⟨(some 27), .mv (.tmp 1), none⟩),
  (6, ⟨(some 28), .call 114 [(.tmp 26), (.tmp 27)], none⟩),
  (7, ⟨(some 29), .bslT 1 [(.tmp 28)], none⟩),
  (8, ⟨(some 30), .app 3 1 8 (.tmp 22) (.tmp 29), none⟩),
  (9, ⟨(some 6), .mv (.tmp 30), none⟩)]
abbrev f79r7 : Pc := .reg f79o7 [0, 1, 6, 7] []
abbrev f79o4 : List (Nat × Pop) := [
  (0, ⟨(some 12), .mv (.tmp 7), none⟩),
  (1, ⟨(some 13), .bin .add (.tmp 12) (.c (.t (.i .i64 1))), none⟩),
  (2, ⟨(some 7), .mv (.tmp 13), none⟩)]
abbrev f79r4 : Pc := .reg f79o4 [0, 1, 6, 7] []
def f79l0 : Pc := (.seq (.seq f79r3 (.cond (.tmp 11) .skip (.exit 0))) (.seq (.block 1 (.seq (.seq f79r5 (.cond (.tmp 21) (.seq f79r6 .ret) .skip)) f79r7)) f79r4))
theorem f79l0e (C : Cfg) (s : St) : evL C f79l0 s = evL C (.seq (.seq f79r3 (.cond (.tmp 11) .skip (.exit 0))) (.seq (.block 1 (.seq (.seq f79r5 (.cond (.tmp 21) (.seq f79r6 .ret) .skip)) f79r7)) f79r4)) s := rfl
abbrev f79o8 : List (Nat × Pop) := [
  (0, ⟨(some 31), .mv (.tmp 6), none⟩),
  (1, ⟨(some 4), .mv (.tmp 31), none⟩),
  (2, ⟨(some 5), .mv (.c (.t (.b true))), none⟩)]
abbrev f79r8 : Pc := .reg f79o8 [4, 5] []
abbrev f79b : Pc := (.seq f79r0 (.seq f79r1 (.seq (.seq f79r2 (.block 0 (.loop f79l0))) (.seq f79r8 .ret))))
abbrev f79 : Pfn := ⟨2, 32, [.tmp 4, .tmp 5], f79b⟩
def f79K : Array (List Nat) := #[[0, 1], [0, 1, 6], [0, 1, 6, 7], [0, 1, 6, 7, 11], [0, 1, 6, 7], [0, 1, 6, 7, 21], [4, 5], [0, 1, 6, 7], [4, 5]]
def f79H : Array (List Nat) := #[[4, 6, 30], [], [], [], [], [], [], [], []]
def f79A : Ann := ⟨fun r => f79K.getD r [], fun r => f79H.getD r [], fun r i => ([] : List (Nat × Nat)).contains (r, i)⟩
theorem f79C : compF Go.Proofs.Tryz.prog f79A 79 = some f79 := by kernel_rfl

/-- switchboard/switchboardref04.Of -/
abbrev f80o0 : List (Nat × Pop) := [
  (0, ⟨(some 4), .mv (.c (.t (.i .i64 0))), none⟩)]
abbrev f80r0 : Pc := .reg f80o0 [0, 1] []
abbrev f80o1 : List (Nat × Pop) := [
  (0, ⟨(some 5), .mv (.c (.t (.i .i64 0))), none⟩)]
abbrev f80r1 : Pc := .reg f80o1 [0, 1, 5] []
abbrev f80o2 : List (Nat × Pop) := [
  (0, ⟨(some 6), .mv (.tmp 5), none⟩),
  (1, ⟨(some 7), .mv (.tmp 0), none⟩),
  (2, ⟨(some 8), .lenL (.tmp 7), none⟩),
  (3, ⟨(some 9), .bin .lss (.tmp 6) (.tmp 8), none⟩)]
abbrev f80r2 : Pc := .reg f80o2 [0, 1, 5, 9] []
abbrev f80o4 : List (Nat × Pop) := [
  (0, ⟨(some 12), .mv (.tmp 0), none⟩),
  (1, ⟨(some 13), .mv (.tmp 5), none⟩),
  (2, ⟨(some 14), .call 115 [(.tmp 12), (.tmp 13)], none⟩),
  (3, ⟨(some 15), .mv (.tmp 1), none⟩),
  (4, ⟨(some 16), .bin .eql (.tmp 14) (.tmp 15), none⟩)]
abbrev f80r4 : Pc := .reg f80o4 [0, 1, 5, 16] []
abbrev f80o5 : List (Nat × Pop) := [
  (0, ⟨(some 17), .mv (.tmp 5), none⟩),
  (1, ⟨(some 4), .mv (.tmp 17), none⟩)]
abbrev f80r5 : Pc := .reg f80o5 [4] []
abbrev f80o3 : List (Nat × Pop) := [
  (0, ⟨(some 10), .mv (.tmp 5), none⟩),
  (1, ⟨(some 11), .bin .add (.tmp 10) (.c (.t (.i .i64 1))), none⟩),
  (2, ⟨(some 5), .mv (.tmp 11), none⟩)]
abbrev f80r3 : Pc := .reg f80o3 [0, 1, 5] []
def f80l0 : Pc := (.seq (.seq f80r2 (.cond (.tmp 9) .skip (.exit 0))) (.seq (.block 1 (.seq f80r4 (.cond (.tmp 16) (.seq f80r5 .ret) .skip))) f80r3))
theorem f80l0e (C : Cfg) (s : St) : evL C f80l0 s = evL C (.seq (.seq f80r2 (.cond (.tmp 9) .skip (.exit 0))) (.seq (.block 1 (.seq f80r4 (.cond (.tmp 16) (.seq f80r5 .ret) .skip))) f80r3)) s := rfl
abbrev f80o6 : List (Nat × Pop) := [
  (0, ⟨(some 4), .mv (.c (.t (.i .i64 (-1)))), none⟩)]
abbrev f80r6 : Pc := .reg f80o6 [4] []
abbrev f80b : Pc := (.seq f80r0 (.seq (.seq f80r1 (.block 0 (.loop f80l0))) (.seq f80r6 .ret)))
abbrev f80 : Pfn := ⟨2, 18, [.tmp 4], f80b⟩
def f80K : Array (List Nat) := #[[0, 1], [0, 1, 5], [0, 1, 5, 9], [0, 1, 5], [0, 1, 5, 16], [4], [4]]
def f80H : Array (List Nat) := #[[], [], [], [], [], [], []]
def f80A : Ann := ⟨fun r => f80K.getD r [], fun r => f80H.getD r [], fun r i => ([] : List (Nat × Nat)).contains (r, i)⟩
theorem f80C : compF Go.Proofs.Tryz.prog f80A 80 = some f80 := by kernel_rfl

/-- switchboard/switchboardref05.Share -/
abbrev f81o0 : List (Nat × Pop) := [
  (0, ⟨(some 4), .mv (.c (.t (.i .i64 0))), none⟩)]
abbrev f81r0 : Pc := .reg f81o0 [0, 1] []
abbrev f81o1 : List (Nat × Pop) := [
  (0, ⟨(some 10), .mv (.tmp 0), none⟩),
  (1, ⟨(some 11), .call 116 [(.tmp 10)], none⟩),
  (2, ⟨(some 12), .mv (.tmp 1), none⟩),
  (3, ⟨(some 13), .call 116 [(.tmp 12)], none⟩),
  (4, ⟨(some 5), .mv (.tmp 11), none⟩),
  (5, ⟨(some 6), .mv (.tmp 13), none⟩)]
abbrev f81r1 : Pc := .reg f81o1 [5, 6] []
abbrev f81o2 : List (Nat × Pop) := [
  (0, ⟨(some 14), .mv (.tmp 5), none⟩),
  (1, ⟨(some 7), .mv (.c (.t (.i .i64 0))), none⟩),
  (2, ⟨(some 8), .mv (.tmp 14), none⟩)]
abbrev f81r2 : Pc := .reg f81o2 [5, 6, 7, 8] []
abbrev f81o3 : List (Nat × Pop) := [
  (0, ⟨(some 9), .mv (.c (.t (.i .i64 0))), none⟩)]
abbrev f81r3 : Pc := .reg f81o3 [5, 6, 7, 8, 9] []
abbrev f81o4 : List (Nat × Pop) := [
  (0, ⟨(some 15), .mv (.tmp 9), none⟩),
  (1, ⟨(some 16), .bin .lss (.tmp 15) (.c (.t (.i .i64 16))), none⟩)]
abbrev f81r4 : Pc := .reg f81o4 [5, 6, 7, 8, 9, 16] []
abbrev f81o6 : List (Nat × Pop) := [
  (0, ⟨(some 19), .mv (.tmp 7), none⟩),
  (1, ⟨(some 20), .bin .mul (.c (.t (.i .i64 2))) (.tmp 19), none⟩),
  (2, ⟨(some 21), .mv (.tmp 8), none⟩),
  (3, ⟨(some 22), .bin .mul (.c (.t (.i .i64 2))) (.tmp 21), none⟩),
  (4, ⟨(some 7), .mv (.tmp 20), none⟩),
  (5, ⟨(some 8), .mv (.tmp 22), none⟩)]
abbrev f81r6 : Pc := .reg f81o6 [5, 6, 7, 8, 9] []
abbrev f81o7 : List (Nat × Pop) := [
  (0, ⟨(some 23), .mv (.tmp 8), none⟩),
  (1, ⟨(some 24), .mv (.tmp 5), none⟩),
  (2, ⟨(some 25), .mv (.tmp 6), none⟩),
  (3, ⟨(some 26), .bin .add (.tmp 24) (.tmp 25), none⟩),
  (4, ⟨(some 27), .bin .geq (.tmp 23) (.tmp 26), none⟩)]
abbrev f81r7 : Pc := .reg f81o7 [5, 6, 7, 8, 9, 27] []
abbrev f81o8 : List (Nat × Pop) := [
  (0, ⟨(some 28), .mv (.tmp 7), none⟩),
  (1, ⟨(some 29), .bin .add (.tmp 28) (.c (.t (.i .i64 1))), none⟩),
  (2, ⟨(some 7), .mv (.tmp 29), none⟩)]
abbrev f81r8 : Pc := .reg f81o8 [5, 6, 7, 8, 9] []
abbrev f81o9 : List (Nat × Pop) := [
  (0, ⟨(some 30), .mv (.tmp 8), none⟩),
  (1, ⟨(some 31), .mv (.tmp 5), none⟩),
  (2, ⟨(some 32), .mv (.tmp 6), none⟩),
  (3, ⟨(some 33), .bin .add (.tmp 31) (.tmp 32), none⟩),
  (4, ⟨(some 34), .bin .sub (.tmp 30) (.tmp 33), none⟩),
  (5, ⟨(some 8), .mv (.tmp 34), none⟩)]
abbrev f81r9 : Pc := .reg f81o9 [5, 6, 7, 8, 9] []
abbrev f81o5 : List (Nat × Pop) := [
  (0, ⟨(some 17), .mv (.tmp 9), none⟩),
  (1, ⟨(some 18), .bin .add (.tmp 17) (.c (.t (.i .i64 1))), none⟩),
  (2, ⟨(some 9), .mv (.tmp 18), none⟩)]
abbrev f81r5 : Pc := .reg f81o5 [5, 6, 7, 8, 9] []
def f81l0 : Pc := (.seq (.seq f81r4 (.cond (.tmp 16) .skip (.exit 0))) (.seq (.block 1 (.seq f81r6 (.seq f81r7 (.cond (.tmp 27) (.seq f81r8 f81r9) .skip)))) f81r5))
theorem f81l0e (C : Cfg) (s : St) : evL C f81l0 s = evL C (.seq (.seq f81r4 (.cond (.tmp 16) .skip (.exit 0))) (.seq (.block 1 (.seq f81r6 (.seq f81r7 (.cond (.tmp 27) (.seq f81r8 f81r9) .skip)))) f81r5)) s := rfl
abbrev f81o10 : List (Nat × Pop) := [
  (0, ⟨(some 35), .mv (.tmp 7), none⟩),
  (1, ⟨(some 4), .mv (.tmp 35), none⟩)]
abbrev f81r10 : Pc := .reg f81o10 [4] []
abbrev f81b : Pc := (.seq f81r0 (.seq f81r1 (.seq f81r2 (.seq (.seq f81r3 (.block 0 (.loop f81l0))) (.seq f81r10 .ret)))))
abbrev f81 : Pfn := ⟨2, 36, [.tmp 4], f81b⟩
def f81K : Array (List Nat) := #[[0, 1], [5, 6], [5, 6, 7, 8], [5, 6, 7, 8, 9], [5, 6, 7, 8, 9, 16], [5, 6, 7, 8, 9], [5, 6, 7, 8, 9], [5, 6, 7, 8, 9, 27], [5, 6, 7, 8, 9], [5, 6, 7, 8, 9], [4]]
def f81H : Array (List Nat) := #[[], [], [], [], [], [], [], [], [], [], []]
def f81A : Ann := ⟨fun r => f81K.getD r [], fun r => f81H.getD r [], fun r i => ([] : List (Nat × Nat)).contains (r, i)⟩
theorem f81C : compF Go.Proofs.Tryz.prog f81A 81 = some f81 := by kernel_rfl

/-- switchboard/switchboardref14.ahead -/
abbrev f82o0 : List (Nat × Pop) := [
  (0, ⟨(some 8), .mv (.c (.t (.i .i64 0))), none⟩)]
abbrev f82r0 : Pc := .reg f82o0 [0, 1, 2, 3] []
abbrev f82o1 : List (Nat × Pop) := [
  (0, ⟨(some 9), .mv (.c (.t (.i .i64 0))), none⟩)]
abbrev f82r1 : Pc := .reg f82o1 [0, 1, 2, 3, 9] []
abbrev f82o2 : List (Nat × Pop) := [
  (0, ⟨(some 10), .mv (.c (.t (.i .i64 0))), none⟩)]
abbrev f82r2 : Pc := .reg f82o2 [0, 1, 2, 3, 9, 10] []
abbrev f82o3 : List (Nat × Pop) := [
  (0, ⟨(some 12), .mv (.tmp 10), none⟩),
  (1, ⟨(some 13), .mv (.tmp 1), none⟩),
  (2, ⟨(some 14), .bin .leq (.tmp 12) (.tmp 13), none⟩)]
abbrev f82r3 : Pc := .reg f82o3 [0, 1, 2, 3, 9, 10, 14] []
abbrev f82o5 : List (Nat × Pop) := [
  (0, ⟨(some 11), .mv (.c (.t (.i .i64 0))), none⟩)]
abbrev f82r5 : Pc := .reg f82o5 [0, 1, 2, 3, 9, 10, 11] []
abbrev f82o6 : List (Nat × Pop) := [
  (0, ⟨(some 17), .mv (.tmp 11), none⟩),
  (1, ⟨(some 18), .bin .lss (.tmp 17) (.c (.t (.i .i64 2))), none⟩)]
abbrev f82r6 : Pc := .reg f82o6 [0, 1, 2, 3, 9, 10, 11, 18] []
abbrev f82o8 : List (Nat × Pop) := [
  (0, ⟨(some 21), .mv (.tmp 0), none⟩),
  (1, ⟨(some 22), .mv (.tmp 10), none⟩),
  (2, ⟨(some 23), .mv (.tmp 11), none⟩),
  (3, ⟨(some 24), .ixS 2 (.tmp 21) (.tmp 22), none⟩),
  (4, ⟨(some 25), .ixA 2 1 (.tmp 24) (.tmp 23), none⟩),
  (5, ⟨(some 26), .load false 1 (.tmp 25), none⟩),
  (6, ⟨(some 27), .mv (.tmp 3), none⟩),
  (7, ⟨(some 28), .bin .eql (.tmp 26) (.tmp 27), none⟩),
  (8, ⟨(some 29), .mv (.tmp 28), none⟩),
  (9, ⟨(some 30), .mv (.tmp 10), (some (29, true))⟩),
  (10, ⟨(some 31), .mv (.tmp 1), (some (29, true))⟩),
  (11, ⟨(some 32), .bin .lss (.tmp 30) (.tmp 31), (some (29, true))⟩),
  (12, ⟨(some 33), .mv (.tmp 32), (some (29, true))⟩),
  (13, ⟨(some 34), .mv (.tmp 11), (some (33, false))⟩),
  (14, ⟨(some 35), .mv (.tmp 2), (some (33, false))⟩),
  (15, ⟨(some 36), .bin .lss (.tmp 34) (.tmp 35), (some (33, false))⟩),
  (16, ⟨(some 37), .pick (.tmp 33) (.c (.t (.b true))) (.tmp 36), (some (29, true))⟩),
  (17, ⟨(some 38), .pick (.tmp 29) (.tmp 37) (.c (.t (.b false))), none⟩)]
abbrev f82r8 : Pc := .reg f82o8 [0, 1, 2, 3, 9, 10, 11, 38] []
abbrev f82o9 : List (Nat × Pop) := [
  (0, ⟨(some 39), .mv (.tmp 9), none⟩),
  (1, ⟨(some 40), .bin .add (.tmp 39) (.c (.t (.i .i64 1))), none⟩),
  (2, ⟨(some 9), .mv (.tmp 40), none⟩)]
abbrev f82r9 : Pc := .reg f82o9 [0, 1, 2, 3, 9, 10, 11] []
abbrev f82o7 : List (Nat × Pop) := [
  (0, ⟨(some 19), .mv (.tmp 11), none⟩),
  (1, ⟨(some 20), .bin .add (.tmp 19) (.c (.t (.i .i64 1))), none⟩),
  (2, ⟨(some 11), .mv (.tmp 20), none⟩)]
abbrev f82r7 : Pc := .reg f82o7 [0, 1, 2, 3, 9, 10, 11] []
def f82l0 : Pc := (.seq (.seq f82r6 (.cond (.tmp 18) .skip (.exit 2))) (.seq (.block 3 (.seq f82r8 (.cond (.tmp 38) f82r9 .skip))) f82r7))
theorem f82l0e (C : Cfg) (s : St) : evL C f82l0 s = evL C (.seq (.seq f82r6 (.cond (.tmp 18) .skip (.exit 2))) (.seq (.block 3 (.seq f82r8 (.cond (.tmp 38) f82r9 .skip))) f82r7)) s := rfl
abbrev f82o4 : List (Nat × Pop) := [
  (0, ⟨(some 15), .mv (.tmp 10), none⟩),
  (1, ⟨(some 16), .bin .add (.tmp 15) (.c (.t (.i .i64 1))), none⟩),
  (2, ⟨(some 10), .mv (.tmp 16), none⟩)]
abbrev f82r4 : Pc := .reg f82o4 [0, 1, 2, 3, 9, 10] []
def f82l1 : Pc := (.seq (.seq f82r3 (.cond (.tmp 14) .skip (.exit 0))) (.seq (.block 1 (.seq f82r5 (.block 2 (.loop f82l0)))) f82r4))
theorem f82l1e (C : Cfg) (s : St) : evL C f82l1 s = evL C (.seq (.seq f82r3 (.cond (.tmp 14) .skip (.exit 0))) (.seq (.block 1 (.seq f82r5 (.block 2 (.loop f82l0)))) f82r4)) s := rfl
abbrev f82o10 : List (Nat × Pop) := [
  (0, ⟨(some 41), .mv (.tmp 9), none⟩),
  (1, ⟨(some 8), .mv (.tmp 41), none⟩)]
abbrev f82r10 : Pc := .reg f82o10 [8] []
abbrev f82b : Pc := (.seq f82r0 (.seq f82r1 (.seq (.seq f82r2 (.block 0 (.loop f82l1))) (.seq f82r10 .ret))))
abbrev f82 : Pfn := ⟨4, 42, [.tmp 8], f82b⟩
def f82K : Array (List Nat) := #[[0, 1, 2, 3], [0, 1, 2, 3, 9], [0, 1, 2, 3, 9, 10], [0, 1, 2, 3, 9, 10, 14], [0, 1, 2, 3, 9, 10], [0, 1, 2, 3, 9, 10, 11], [0, 1, 2, 3, 9, 10, 11, 18], [0, 1, 2, 3, 9, 10, 11], [0, 1, 2, 3, 9, 10, 11, 38], [0, 1, 2, 3, 9, 10, 11], [8]]
def f82H : Array (List Nat) := #[[], [], [], [], [], [], [], [], [], [], []]
def f82A : Ann := ⟨fun r => f82K.getD r [], fun r => f82H.getD r [], fun r i => ([] : List (Nat × Nat)).contains (r, i)⟩
theorem f82C : compF Go.Proofs.Tryz.prog f82A 82 = some f82 := by kernel_rfl

/-- switchboard/switchboardref01.Hold -/
abbrev f83o0 : List (Nat × Pop) := [
  (0, ⟨(some 2), .mv (.c (.t (.i .i64 0))), none⟩)]
abbrev f83r0 : Pc := .reg f83o0 [0] []
abbrev f83o1 : List (Nat × Pop) := [
  (0, ⟨(some 3), .mv (.tmp 0), none⟩),
  (1, ⟨(some 4), .bin .gtr (.tmp 3) (.c (.t (.i .i64 2147483647))), none⟩)]
abbrev f83r1 : Pc := .reg f83o1 [0, 4] []
abbrev f83o2 : List (Nat × Pop) := [
  (0, ⟨(some 2), .mv (.c (.t (.i .i64 2147483647))), none⟩)]
abbrev f83r2 : Pc := .reg f83o2 [2] []
abbrev f83o3 : List (Nat × Pop) := [
  (0, ⟨(some 5), .mv (.tmp 0), none⟩),
  (1, ⟨(some 6), .bin .lss (.tmp 5) (.c (.t (.i .i64 (-2147483647)))), none⟩)]
abbrev f83r3 : Pc := .reg f83o3 [0, 6] []
abbrev f83o4 : List (Nat × Pop) := [
  (0, ⟨(some 2), .mv (.c (.t (.i .i64 (-2147483647)))), none⟩)]
abbrev f83r4 : Pc := .reg f83o4 [2] []
abbrev f83o5 : List (Nat × Pop) := [
  (0, ⟨(some 7), .mv (.tmp 0), none⟩),
  (1, ⟨(some 2), .mv (.tmp 7), none⟩)]
abbrev f83r5 : Pc := .reg f83o5 [2] []
abbrev f83b : Pc := (.seq f83r0 (.seq (.seq f83r1 (.cond (.tmp 4) (.seq f83r2 .ret) .skip)) (.seq (.seq f83r3 (.cond (.tmp 6) (.seq f83r4 .ret) .skip)) (.seq f83r5 .ret))))
abbrev f83 : Pfn := ⟨1, 8, [.tmp 2], f83b⟩
def f83K : Array (List Nat) := #[[0], [0, 4], [2], [0, 6], [2], [2]]
def f83H : Array (List Nat) := #[[], [], [], [], [], []]
def f83A : Ann := ⟨fun r => f83K.getD r [], fun r => f83H.getD r [], fun r i => ([] : List (Nat × Nat)).contains (r, i)⟩
theorem f83C : compF Go.Proofs.Tryz.prog f83A 83 = some f83 := by kernel_rfl

/-- switchboard/switchboardref01.Mul -/
abbrev f84o0 : List (Nat × Pop) := [
  (0, ⟨(some 4), .mv (.c (.t (.i .i64 0))), none⟩)]
abbrev f84r0 : Pc := .reg f84o0 [0, 1] []
abbrev f84o1 : List (Nat × Pop) := [
  (0, ⟨(some 7), .mv (.tmp 0), none⟩),
  (1, ⟨(some 8), .call 83 [(.tmp 7)], none⟩),
  (2, ⟨(some 9), .mv (.tmp 1), none⟩),
  (3, ⟨(some 10), .call 83 [(.tmp 9)], none⟩),
  (4, ⟨(some 0), .mv (.tmp 8), none⟩),
  (5, ⟨(some 1), .mv (.tmp 10), none⟩)]
abbrev f84r1 : Pc := .reg f84o1 [0, 1] []
abbrev f84o2 : List (Nat × Pop) := [
  (0, ⟨(some 5), .mv (.c (.t (.b false))), none⟩)]
abbrev f84r2 : Pc := .reg f84o2 [0, 1, 5] []
abbrev f84o3 : List (Nat × Pop) := [
  (0, ⟨(some 11), .mv (.tmp 0), none⟩),
  (1, ⟨(some 12), .bin .lss (.tmp 11) (.c (.t (.i .i64 0))), none⟩)]
abbrev f84r3 : Pc := .reg f84o3 [0, 1, 5, 12] []
abbrev f84o4 : List (Nat × Pop) := [
  (0, ⟨(some 13), .mv (.tmp 0), none⟩),
  (1, ⟨(some 14), .un .neg (.tmp 13), none⟩),
  (2, ⟨(some 15), .mv (.tmp 5), none⟩),
  (3, ⟨(some 16), .un .not (.tmp 15), none⟩),
  (4, ⟨(some 0), .mv (.tmp 14), none⟩),
  (5, ⟨(some 5), .mv (.tmp 16), none⟩)]
abbrev f84r4 : Pc := .reg f84o4 [0, 1, 5] []
abbrev f84o5 : List (Nat × Pop) := [
  (0, ⟨(some 17), .mv (.tmp 1), none⟩),
  (1, ⟨(some 18), .bin .lss (.tmp 17) (.c (.t (.i .i64 0))), none⟩)]
abbrev f84r5 : Pc := .reg f84o5 [0, 1, 5, 18] []
abbrev f84o6 : List (Nat × Pop) := [
  (0, ⟨(some 19), .mv (.tmp 1), none⟩),
  (1, ⟨(some 20), .un .neg (.tmp 19), none⟩),
  (2, ⟨(some 21), .mv (.tmp 5), none⟩),
  (3, ⟨(some 22), .un .not (.tmp 21), none⟩),
  (4, ⟨(some 1), .mv (.tmp 20), none⟩),
  (5, ⟨(some 5), .mv (.tmp 22), none⟩)]
abbrev f84r6 : Pc := .reg f84o6 [0, 1, 5] []
abbrev f84o7 : List (Nat × Pop) := [
  (0, ⟨(some 23), .mv (.tmp 0), none⟩),
  (1, ⟨(some 24), .mv (.tmp 1), none⟩),
  (2, ⟨(some 25), .bin .mul (.tmp 23) (.tmp 24), none⟩),
  (3, ⟨(some 26), .bin .quo (.tmp 25) (.c (.t (.i .i64 65536))), none⟩),
  (4, ⟨(some 6), .mv (.tmp 26), none⟩)]
abbrev f84r7 : Pc := .reg f84o7 [5, 6] []
abbrev f84o8 : List (Nat × Pop) := [
  (0, ⟨(some 27), .mv (.tmp 5), none⟩)]
abbrev f84r8 : Pc := .reg f84o8 [6, 27] []
abbrev f84o9 : List (Nat × Pop) := [
  (0, ⟨(some 28), .mv (.tmp 6), none⟩),
  (1, ⟨(some 29), .un .neg (.tmp 28), none⟩),
  (2, ⟨(some 6), .mv (.tmp 29), none⟩)]
abbrev f84r9 : Pc := .reg f84o9 [6] []
abbrev f84o10 : List (Nat × Pop) := [
  (0, ⟨(some 30), .mv (.tmp 6), none⟩),
  (1, ⟨(some 31), .call 83 [(.tmp 30)], none⟩),
  (2, ⟨(some 4), .mv (.tmp 31), none⟩)]
abbrev f84r10 : Pc := .reg f84o10 [4] []
abbrev f84b : Pc := (.seq f84r0 (.seq f84r1 (.seq f84r2 (.seq (.seq f84r3 (.cond (.tmp 12) f84r4 .skip)) (.seq (.seq f84r5 (.cond (.tmp 18) f84r6 .skip)) (.seq f84r7 (.seq (.seq f84r8 (.cond (.tmp 27) f84r9 .skip)) (.seq f84r10 .ret))))))))
abbrev f84 : Pfn := ⟨2, 32, [.tmp 4], f84b⟩
def f84K : Array (List Nat) := #[[0, 1], [0, 1], [0, 1, 5], [0, 1, 5, 12], [0, 1, 5], [0, 1, 5, 18], [0, 1, 5], [5, 6], [6, 27], [6], [4]]
def f84H : Array (List Nat) := #[[], [], [], [], [], [], [], [], [], [], []]
def f84A : Ann := ⟨fun r => f84K.getD r [], fun r => f84H.getD r [], fun r i => ([] : List (Nat × Nat)).contains (r, i)⟩
theorem f84C : compF Go.Proofs.Tryz.prog f84A 84 = some f84 := by kernel_rfl

/-- switchboard/switchboardref02.Relu -/
abbrev f85o0 : List (Nat × Pop) := [
  (0, ⟨(some 2), .nilv 3 1, none⟩)]
abbrev f85r0 : Pc := .reg f85o0 [0] [2, 3, 22]
abbrev f85o1 : List (Nat × Pop) := [
  (0, ⟨(some 3), .nilv 3 1, none⟩)]
abbrev f85r1 : Pc := .reg f85o1 [0, 3] []
abbrev f85o2 : List (Nat × Pop) := [
  (0, ⟨(some 4), .mv (.c (.t (.i .i64 0))), none⟩)]
abbrev f85r2 : Pc := .reg f85o2 [0, 3, 4] []
abbrev f85o3 : List (Nat × Pop) := [
  (0, ⟨(some 6), .mv (.tmp 4), none⟩),
  (1, ⟨(some 7), .mv (.tmp 0), none⟩),
  (2, ⟨(some 8), .lenL (.tmp 7), none⟩),
  (3, ⟨(some 9), .bin .lss (.tmp 6) (.tmp 8), none⟩)]
abbrev f85r3 : Pc := .reg f85o3 [0, 3, 4, 9] []
abbrev f85o5 : List (Nat × Pop) := [
  (0, ⟨(some 12), .mv (.tmp 0), none⟩),
  (1, ⟨(some 13), .mv (.tmp 4), none⟩),
  (2, ⟨(some 14), .ixS 1 (.tmp 12) (.tmp 13), none⟩),
  (3, ⟨(some 15), .load false 1 (.tmp 14), none⟩),
  (4, ⟨(some 16), .call 83 [(.tmp 15)], none⟩),
  (5, ⟨(some 5), .mv (.tmp 16), none⟩)]
abbrev f85r5 : Pc := .reg f85o5 [0, 3, 4, 5] []
abbrev f85o6 : List (Nat × Pop) := [
  (0, ⟨(some 17), .mv (.tmp 5), none⟩),
  (1, ⟨(some 18), .bin .lss (.tmp 17) (.c (.t (.i .i64 0))), none⟩)]
abbrev f85r6 : Pc := .reg f85o6 [0, 3, 4, 5, 18] []
abbrev f85o7 : List (Nat × Pop) := [
  (0, ⟨(some 5), .mv (.c (.t (.i .i64 0))), none⟩)]
abbrev f85r7 : Pc := .reg f85o7 [0, 3, 4, 5] []
abbrev f85o8 : List (Nat × Pop) := [
  (0, ⟨(some 19), .mv (.tmp 3), none⟩),
  (1, ⟨(some 20), .mv (.tmp 5), none⟩),
  (2, ⟨(some 21), .bslT 1 [(.tmp 20)], none⟩),
  (3, ⟨(some 22), .app 3 1 8 (.tmp 19) (.tmp 21), none⟩),
  (4, ⟨(some 3), .mv (.tmp 22), none⟩)]
abbrev f85r8 : Pc := .reg f85o8 [0, 3, 4] []
abbrev f85o4 : List (Nat × Pop) := [
  (0, ⟨(some 10), .mv (.tmp 4), none⟩),
  (1, ⟨(some 11), .bin .add (.tmp 10) (.c (.t (.i .i64 1))), none⟩),
  (2, ⟨(some 4), .mv (.tmp 11), none⟩)]
abbrev f85r4 : Pc := .reg f85o4 [0, 3, 4] []
def f85l0 : Pc := (.seq (.seq f85r3 (.cond (.tmp 9) .skip (.exit 0))) (.seq (.block 1 (.seq f85r5 (.seq (.seq f85r6 (.cond (.tmp 18) f85r7 .skip)) f85r8))) f85r4))
theorem f85l0e (C : Cfg) (s : St) : evL C f85l0 s = evL C (.seq (.seq f85r3 (.cond (.tmp 9) .skip (.exit 0))) (.seq (.block 1 (.seq f85r5 (.seq (.seq f85r6 (.cond (.tmp 18) f85r7 .skip)) f85r8))) f85r4)) s := rfl
abbrev f85o9 : List (Nat × Pop) := [
  (0, ⟨(some 23), .mv (.tmp 3), none⟩),
  (1, ⟨(some 2), .mv (.tmp 23), none⟩)]
abbrev f85r9 : Pc := .reg f85o9 [2] []
abbrev f85b : Pc := (.seq f85r0 (.seq f85r1 (.seq (.seq f85r2 (.block 0 (.loop f85l0))) (.seq f85r9 .ret))))
abbrev f85 : Pfn := ⟨1, 24, [.tmp 2], f85b⟩
def f85K : Array (List Nat) := #[[0], [0, 3], [0, 3, 4], [0, 3, 4, 9], [0, 3, 4], [0, 3, 4, 5], [0, 3, 4, 5, 18], [0, 3, 4, 5], [0, 3, 4], [2]]
def f85H : Array (List Nat) := #[[2, 3, 22], [], [], [], [], [], [], [], [], []]
def f85A : Ann := ⟨fun r => f85K.getD r [], fun r => f85H.getD r [], fun r i => ([] : List (Nat × Nat)).contains (r, i)⟩
theorem f85C : compF Go.Proofs.Tryz.prog f85A 85 = some f85 := by kernel_rfl

/-- slices.Delete[[]string,string] -/
abbrev f86o0 : List (Nat × Pop) := [
  (0, ⟨(some 6), .nilv 9 1, none⟩)]
abbrev f86r0 : Pc := .reg f86o0 [0, 1, 2] [6]
abbrev f86o1 : List (Nat × Pop) := [
  (0, ⟨(some 8), .mv (.tmp 0), none⟩),
  (1, ⟨(some 9), .mv (.tmp 1), none⟩),
  (2, ⟨(some 10), .mv (.tmp 2), none⟩),
  (3, ⟨(some 11), .mv (.tmp 0), none⟩),
  (4, ⟨(some 12), .lenL (.tmp 11), none⟩),
  (5, ⟨(some 13), .sl3 (.tmp 8) (.tmp 9) (.tmp 10) (.tmp 12), none⟩)]
abbrev f86r1 : Pc := .reg f86o1 [0, 1, 2] []
abbrev f86o2 : List (Nat × Pop) := [
  (0, ⟨(some 14), .mv (.tmp 1), none⟩),
  (1, ⟨(some 15), .mv (.tmp 2), none⟩),
  (2, ⟨(some 16), .bin .eql (.tmp 14) (.tmp 15), none⟩)]
abbrev f86r2 : Pc := .reg f86o2 [0, 1, 2, 16] []
abbrev f86o3 : List (Nat × Pop) := [
  (0, ⟨(some 17), .mv (.tmp 0), none⟩),
  (1, ⟨(some 6), .mv (.tmp 17), none⟩)]
abbrev f86r3 : Pc := .reg f86o3 [6] []
abbrev f86o4 : List (Nat × Pop) := [
  (0, ⟨(some 18), .mv (.tmp 0), none⟩),
  (1, ⟨(some 19), .lenL (.tmp 18), none⟩),
  (2, ⟨(some 7), .mv (.tmp 19), none⟩)]
abbrev f86r4 : Pc := .reg f86o4 [0, 1, 2, 7] []
abbrev f86o5 : List (Nat × Pop) := [
  (0, ⟨(some 20), .mv (.tmp 0), none⟩),
  (1, ⟨(some 21), .mv (.tmp 1), none⟩),
  (2, ⟨(some 22), .sls 1 (.tmp 20) none (some (.tmp 21)), none⟩),
  (3, ⟨(some 23), .mv (.tmp 0), none⟩),
  (4, ⟨(some 24), .mv (.tmp 2), none⟩),
  (5, ⟨(some 25), .sls 1 (.tmp 23) (some (.tmp 24)) none, none⟩),
  (6, ⟨(some 26), .app 9 1 16 (.tmp 22) (.tmp 25), none⟩),
  (7, ⟨(some 0), .mv (.tmp 26), none⟩)]
abbrev f86r5 : Pc := .reg f86o5 [0, 7] []
abbrev f86o6 : List (Nat × Pop) := [
  (0, ⟨(some 27), .mv (.tmp 0), none⟩),
  (1, ⟨(some 28), .mv (.tmp 0), none⟩),
  (2, ⟨(some 29), .lenL (.tmp 28), none⟩),
  (3, ⟨(some 30), .mv (.tmp 7), none⟩),
  (4, ⟨(some 31), .sls 1 (.tmp 27) (some (.tmp 29)) (some (.tmp 30)), none⟩),
  (5, ⟨none, .clr 1 (.tmp 31), none⟩)]
abbrev f86r6 : Pc := .reg f86o6 [0] []
abbrev f86o7 : List (Nat × Pop) := [
  (0, ⟨(some 32), .mv (.tmp 0), none⟩),
  (1, ⟨(some 6), .mv (.tmp 32), none⟩)]
abbrev f86r7 : Pc := .reg f86o7 [6] []
abbrev f86b : Pc := (.seq f86r0 (.seq f86r1 (.seq (.seq f86r2 (.cond (.tmp 16) (.seq f86r3 .ret) .skip)) (.seq f86r4 (.seq f86r5 (.seq f86r6 (.seq f86r7 .ret)))))))
abbrev f86 : Pfn := ⟨3, 33, [.tmp 6], f86b⟩
def f86K : Array (List Nat) := #[[0, 1, 2], [0, 1, 2], [0, 1, 2, 16], [6], [0, 1, 2, 7], [0, 7], [0], [6]]
def f86H : Array (List Nat) := #[[6], [], [], [], [], [], [], []]
def f86A : Ann := ⟨fun r => f86K.getD r [], fun r => f86H.getD r [], fun r i => ([] : List (Nat × Nat)).contains (r, i)⟩
theorem f86C : compF Go.Proofs.Tryz.prog f86A 86 = some f86 := by kernel_rfl

/-- switchboard/wire.number -/
abbrev f87o0 : List (Nat × Pop) := [
  (0, ⟨(some 4), .mv (.c (.t (.i .i64 0))), none⟩)]
abbrev f87r0 : Pc := .reg f87o0 [0, 1] []
abbrev f87o1 : List (Nat × Pop) := [
  (0, ⟨(some 5), .mv (.c (.t (.i .i64 0))), none⟩)]
abbrev f87r1 : Pc := .reg f87o1 [0, 1, 5] []
abbrev f87o2 : List (Nat × Pop) := [
  (0, ⟨(some 6), .mv (.c (.t (.i .i64 3))), none⟩)]
abbrev f87r2 : Pc := .reg f87o2 [0, 1, 5, 6] []
abbrev f87o3 : List (Nat × Pop) := [
  (0, ⟨(some 7), .mv (.tmp 6), none⟩),
  (1, ⟨(some 8), .bin .geq (.tmp 7) (.c (.t (.i .i64 0))), none⟩)]
abbrev f87r3 : Pc := .reg f87o3 [0, 1, 5, 6, 8] []
abbrev f87o5 : List (Nat × Pop) := [
  (0, ⟨(some 11), .mv (.tmp 5), none⟩),
  (1, ⟨(some 12), .bin .shl (.tmp 11) (.c (.t (.i .u64 8))), none⟩),
  (2, ⟨(some 13), .mv (.tmp 0), none⟩),
  (3, ⟨(some 14), .mv (.tmp 1), none⟩),
  (4, ⟨(some 15), .bin .mul (.c (.t (.i .i64 4))) (.tmp 14), none⟩),
  (5, ⟨(some 16), .mv (.tmp 6), none⟩),
  (6, ⟨(some 17), .bin .add (.tmp 15) (.tmp 16), none⟩),
  (7, ⟨(some 18), .ixs (.tmp 13) (.tmp 17), none⟩),
  (8, ⟨(some 19), .cvi .i64 (.tmp 18), none⟩),
  (9, ⟨(some 20), .bin .or (.tmp 12) (.tmp 19), none⟩),
  (10, ⟨(some 5), .mv (.tmp 20), none⟩)]
abbrev f87r5 : Pc := .reg f87o5 [0, 1, 5, 6] []
abbrev f87o4 : List (Nat × Pop) := [
  (0, ⟨(some 9), .mv (.tmp 6), none⟩),
  (1, ⟨(some 10), .bin .sub (.tmp 9) (.c (.t (.i .i64 1))), none⟩),
  (2, ⟨(some 6), .mv (.tmp 10), none⟩)]
abbrev f87r4 : Pc := .reg f87o4 [0, 1, 5, 6] []
def f87l0 : Pc := (.seq (.seq f87r3 (.cond (.tmp 8) .skip (.exit 0))) (.seq (.block 1 f87r5) f87r4))
theorem f87l0e (C : Cfg) (s : St) : evL C f87l0 s = evL C (.seq (.seq f87r3 (.cond (.tmp 8) .skip (.exit 0))) (.seq (.block 1 f87r5) f87r4)) s := rfl
abbrev f87o6 : List (Nat × Pop) := [
  (0, ⟨(some 21), .mv (.tmp 5), none⟩),
  (1, ⟨(some 4), .mv (.tmp 21), none⟩)]
abbrev f87r6 : Pc := .reg f87o6 [4] []
abbrev f87b : Pc := (.seq f87r0 (.seq f87r1 (.seq (.seq f87r2 (.block 0 (.loop f87l0))) (.seq f87r6 .ret))))
abbrev f87 : Pfn := ⟨2, 22, [.tmp 4], f87b⟩
def f87K : Array (List Nat) := #[[0, 1], [0, 1, 5], [0, 1, 5, 6], [0, 1, 5, 6, 8], [0, 1, 5, 6], [0, 1, 5, 6], [4]]
def f87H : Array (List Nat) := #[[], [], [], [], [], [], []]
def f87A : Ann := ⟨fun r => f87K.getD r [], fun r => f87H.getD r [], fun r i => ([] : List (Nat × Nat)).contains (r, i)⟩
theorem f87C : compF Go.Proofs.Tryz.prog f87A 87 = some f87 := by kernel_rfl

/-- switchboard/crc.Sum -/
abbrev f88o0 : List (Nat × Pop) := [
  (0, ⟨(some 2), .mv (.c (.t (.i .i64 0))), none⟩)]
abbrev f88r0 : Pc := .reg f88o0 [0] []
abbrev f88o1 : List (Nat × Pop) := [
  (0, ⟨(some 3), .mv (.c (.t (.i .u32 4294967295))), none⟩)]
abbrev f88r1 : Pc := .reg f88o1 [0, 3] []
abbrev f88o2 : List (Nat × Pop) := [
  (0, ⟨(some 7), .mv (.tmp 0), none⟩),
  (1, ⟨(some 8), .sbs 5 (.tmp 7), none⟩),
  (2, ⟨(some 9), .lenL (.tmp 8), none⟩),
  (3, ⟨(some 10), .mv (.c (.t (.i .i64 0))), none⟩)]
abbrev f88r2 : Pc := .reg f88o2 [3, 8, 9, 10] []
abbrev f88o3 : List (Nat × Pop) := [
  (0, ⟨(some 11), .bin .lss (.tmp 10) (.tmp 9), none⟩)]
abbrev f88r3 : Pc := .reg f88o3 [3, 8, 9, 10, 11] []
abbrev f88o4 : List (Nat × Pop) := [
  (0, ⟨(some 12), .ixS 1 (.tmp 8) (.tmp 10), none⟩),
  (1, ⟨(some 13), .load false 1 (.tmp 12), none⟩),
  (2, ⟨(some 5), .mv (.tmp 13), none⟩)]
abbrev f88r4 : Pc := .reg f88o4 [3, 5, 8, 9, 10] []
abbrev f88o5 : List (Nat × Pop) := [
  (0, ⟨(some 14), .mv (.tmp 3), none⟩),
  (1, ⟨(some 15), .mv (.tmp 5), none⟩),
  (2, ⟨(some 16), .cvi .u32 (.tmp 15), none⟩),
  (3, ⟨(some 17), .bin .xor (.tmp 14) (.tmp 16), none⟩),
  (4, ⟨(some 3), .mv (.tmp 17), none⟩)]
abbrev f88r5 : Pc := .reg f88o5 [3, 8, 9, 10] []
abbrev f88o6 : List (Nat × Pop) := [
  (0, ⟨(some 18), .mv (.c (.t (.i .i64 0))), none⟩)]
abbrev f88r6 : Pc := .reg f88o6 [3, 8, 9, 10, 18] []
abbrev f88o7 : List (Nat × Pop) := [
  (0, ⟨(some 19), .bin .lss (.tmp 18) (.c (.t (.i .i64 8))), none⟩)]
abbrev f88r7 : Pc := .reg f88o7 [3, 8, 9, 10, 18, 19] []
abbrev f88o8 : List (Nat × Pop) := [
  (0, ⟨(some 20), .mv (.tmp 3), none⟩),
  (1, ⟨(some 21), .bin .and (.tmp 20) (.c (.t (.i .u32 1))), none⟩),
  (2, ⟨(some 6), .mv (.tmp 21), none⟩)]
abbrev f88r8 : Pc := .reg f88o8 [3, 6, 8, 9, 10, 18] []
abbrev f88o9 : List (Nat × Pop) := [
  (0, ⟨(some 22), .mv (.tmp 3), none⟩),
  (1, ⟨(some 23), .bin .shr (.tmp 22) (.c (.t (.i .u64 1))), none⟩),
  (2, ⟨(some 3), .mv (.tmp 23), none⟩)]
abbrev f88r9 : Pc := .reg f88o9 [3, 6, 8, 9, 10, 18] []
abbrev f88o10 : List (Nat × Pop) := [
  (0, ⟨(some 24), .mv (.tmp 3), none⟩),
  (1, ⟨(some 25), .mv (.tmp 6), none⟩),
  (2, ⟨(some 26), .bin .mul (.c (.t (.i .u32 3988292384))) (.tmp 25), none⟩),
  (3, ⟨(some 27), .bin .xor (.tmp 24) (.tmp 26), none⟩),
  (4, ⟨(some 3), .mv (.tmp 27), none⟩)]
abbrev f88r10 : Pc := .reg f88o10 [3, 8, 9, 10, 18] []
abbrev f88o11 : List (Nat × Pop) := [
  (0, ⟨(some 28), .bin .add (.tmp 18) (.c (.t (.i .i64 1))), none⟩),
  (1, ⟨(some 18), .mv (.tmp 28), none⟩)]
abbrev f88r11 : Pc := .reg f88o11 [3, 8, 9, 10, 18] []
def f88l0 : Pc := (.seq f88r7 (.seq (.cond (.tmp 19) .skip (.exit 2)) (.seq (.block 3 (.seq f88r8 (.seq f88r9 f88r10))) f88r11)))
theorem f88l0e (C : Cfg) (s : St) : evL C f88l0 s = evL C (.seq f88r7 (.seq (.cond (.tmp 19) .skip (.exit 2)) (.seq (.block 3 (.seq f88r8 (.seq f88r9 f88r10))) f88r11))) s := rfl
abbrev f88o12 : List (Nat × Pop) := [
  (0, ⟨(some 29), .bin .add (.tmp 10) (.c (.t (.i .i64 1))), none⟩),
  (1, ⟨(some 10), .mv (.tmp 29), none⟩)]
abbrev f88r12 : Pc := .reg f88o12 [3, 8, 9, 10] []
def f88l1 : Pc := (.seq f88r3 (.seq (.cond (.tmp 11) .skip (.exit 0)) (.seq (.block 1 (.seq f88r4 (.seq f88r5 (.seq f88r6 (.block 2 (.loop f88l0)))))) f88r12)))
theorem f88l1e (C : Cfg) (s : St) : evL C f88l1 s = evL C (.seq f88r3 (.seq (.cond (.tmp 11) .skip (.exit 0)) (.seq (.block 1 (.seq f88r4 (.seq f88r5 (.seq f88r6 (.block 2 (.loop f88l0)))))) f88r12))) s := rfl
abbrev f88o13 : List (Nat × Pop) := [
  (0, ⟨(some 30), .mv (.tmp 3), none⟩),
  (1, ⟨(some 31), .bin .xor (.tmp 30) (.c (.t (.i .u32 4294967295))), none⟩),
  (2, ⟨(some 32), .cvi .i64 (.tmp 31), none⟩),
  (3, ⟨(some 2), .mv (.tmp 32), none⟩)]
abbrev f88r13 : Pc := .reg f88o13 [2] [8]
abbrev f88b : Pc := (.seq f88r0 (.seq f88r1 (.seq (.seq f88r2 (.block 0 (.loop f88l1))) (.seq f88r13 .ret))))
abbrev f88 : Pfn := ⟨1, 33, [.tmp 2], f88b⟩
def f88K : Array (List Nat) := #[[0], [0, 3], [3, 8, 9, 10], [3, 8, 9, 10, 11], [3, 5, 8, 9, 10], [3, 8, 9, 10], [3, 8, 9, 10, 18], [3, 8, 9, 10, 18, 19], [3, 6, 8, 9, 10, 18], [3, 6, 8, 9, 10, 18], [3, 8, 9, 10, 18], [3, 8, 9, 10, 18], [3, 8, 9, 10], [2]]
def f88H : Array (List Nat) := #[[], [], [], [], [], [], [], [], [], [], [], [], [], [8]]
def f88A : Ann := ⟨fun r => f88K.getD r [], fun r => f88H.getD r [], fun r i => ([] : List (Nat × Nat)).contains (r, i)⟩
theorem f88C : compF Go.Proofs.Tryz.prog f88A 88 = some f88 := by kernel_rfl

/-- switchboard/wire.signed -/
abbrev f89o0 : List (Nat × Pop) := [
  (0, ⟨(some 2), .mv (.c (.t (.i .i64 0))), none⟩)]
abbrev f89r0 : Pc := .reg f89o0 [0] []
abbrev f89o1 : List (Nat × Pop) := [
  (0, ⟨(some 3), .mv (.tmp 0), none⟩),
  (1, ⟨(some 4), .cvi .i32 (.tmp 3), none⟩),
  (2, ⟨(some 5), .cvi .i64 (.tmp 4), none⟩),
  (3, ⟨(some 2), .mv (.tmp 5), none⟩)]
abbrev f89r1 : Pc := .reg f89o1 [2] []
abbrev f89b : Pc := (.seq f89r0 (.seq f89r1 .ret))
abbrev f89 : Pfn := ⟨1, 6, [.tmp 2], f89b⟩
def f89K : Array (List Nat) := #[[0], [2]]
def f89H : Array (List Nat) := #[[], []]
def f89A : Ann := ⟨fun r => f89K.getD r [], fun r => f89H.getD r [], fun r i => ([] : List (Nat × Nat)).contains (r, i)⟩
theorem f89C : compF Go.Proofs.Tryz.prog f89A 89 = some f89 := by kernel_rfl

/-- switchboard/wire.Right -/
abbrev f90o0 : List (Nat × Pop) := [
  (0, ⟨(some 1), .box 44 11 (.tmp 0), none⟩),
  (1, ⟨(some 2), .mv (.c (.t (.b false))), none⟩)]
abbrev f90r0 : Pc := .reg f90o0 [1] []
abbrev f90o1 : List (Nat × Pop) := [
  (0, ⟨(some 7), .load true 11 (.tmp 1), none⟩),
  (1, ⟨(some 8), .call 117 [(.tmp 7)], none⟩),
  (2, ⟨(some 9), .lenL (.tmp 8), none⟩),
  (3, ⟨(some 10), .mv (.c (.t (.i .i64 0))), none⟩)]
abbrev f90r1 : Pc := .reg f90o1 [1, 8, 9, 10] []
abbrev f90o2 : List (Nat × Pop) := [
  (0, ⟨(some 11), .bin .lss (.tmp 10) (.tmp 9), none⟩)]
abbrev f90r2 : Pc := .reg f90o2 [1, 8, 9, 10, 11] []
abbrev f90o3 : List (Nat × Pop) := [
  (0, ⟨(some 12), .ixS 1 (.tmp 8) (.tmp 10), none⟩),
  (1, ⟨(some 13), .load false 1 (.tmp 12), none⟩),
  (2, ⟨(some 4), .mv (.tmp 13), none⟩)]
abbrev f90r3 : Pc := .reg f90o3 [1, 4, 8, 9, 10] []
abbrev f90o4 : List (Nat × Pop) := [
  (0, ⟨(some 14), .mv (.tmp 4), none⟩),
  (1, ⟨(some 15), .bin .lss (.tmp 14) (.c (.t (.i .i64 0))), none⟩),
  (2, ⟨(some 16), .mv (.tmp 15), none⟩),
  (3, ⟨(some 17), .mv (.tmp 4), (some (16, false))⟩),
  (4, ⟨(some 18), .bin .gtr (.tmp 17) (.c (.t (.i .i64 2147483647))), (some (16, false))⟩),
  (5, ⟨(some 19), .pick (.tmp 16) (.c (.t (.b true))) (.tmp 18), none⟩)]
abbrev f90r4 : Pc := .reg f90o4 [1, 8, 9, 10, 19] []
abbrev f90o5 : List (Nat × Pop) := [
  (0, ⟨(some 2), .mv (.c (.t (.b false))), none⟩)]
abbrev f90r5 : Pc := .reg f90o5 [2] [1, 8]
abbrev f90o6 : List (Nat × Pop) := [
  (0, ⟨(some 20), .bin .add (.tmp 10) (.c (.t (.i .i64 1))), none⟩),
  (1, ⟨(some 10), .mv (.tmp 20), none⟩)]
abbrev f90r6 : Pc := .reg f90o6 [1, 8, 9, 10] []
def f90l0 : Pc := (.seq f90r2 (.seq (.cond (.tmp 11) .skip (.exit 0)) (.seq (.block 1 (.seq f90r3 (.seq f90r4 (.cond (.tmp 19) (.seq f90r5 .ret) .skip)))) f90r6)))
theorem f90l0e (C : Cfg) (s : St) : evL C f90l0 s = evL C (.seq f90r2 (.seq (.cond (.tmp 11) .skip (.exit 0)) (.seq (.block 1 (.seq f90r3 (.seq f90r4 (.cond (.tmp 19) (.seq f90r5 .ret) .skip)))) f90r6))) s := rfl
abbrev f90o7 : List (Nat × Pop) := [
  (0, ⟨(some 21), .fad 10 (.tmp 1), none⟩),
  (1, ⟨(some 22), .load false 1 (.tmp 21), none⟩),
  (2, ⟨(some 23), .lenL (.tmp 22), none⟩),
  (3, ⟨(some 24), .mv (.c (.t (.i .i64 0))), none⟩)]
abbrev f90r7 : Pc := .reg f90o7 [1, 22, 23, 24] [8]
abbrev f90o8 : List (Nat × Pop) := [
  (0, ⟨(some 25), .bin .lss (.tmp 24) (.tmp 23), none⟩)]
abbrev f90r8 : Pc := .reg f90o8 [1, 22, 23, 24, 25] []
abbrev f90o9 : List (Nat × Pop) := [
  (0, ⟨(some 26), .ixS 1 (.tmp 22) (.tmp 24), none⟩),
  (1, ⟨(some 27), .load false 1 (.tmp 26), none⟩),
  (2, ⟨(some 6), .mv (.tmp 27), none⟩)]
abbrev f90r9 : Pc := .reg f90o9 [1, 6, 22, 23, 24] []
abbrev f90o10 : List (Nat × Pop) := [
  (0, ⟨(some 28), .mv (.tmp 6), none⟩),
  (1, ⟨(some 29), .bin .lss (.tmp 28) (.c (.t (.i .i64 (-2147483648)))), none⟩),
  (2, ⟨(some 30), .mv (.tmp 29), none⟩),
  (3, ⟨(some 31), .mv (.tmp 6), (some (30, false))⟩),
  (4, ⟨(some 32), .bin .gtr (.tmp 31) (.c (.t (.i .i64 2147483647))), (some (30, false))⟩),
  (5, ⟨(some 33), .pick (.tmp 30) (.c (.t (.b true))) (.tmp 32), none⟩)]
abbrev f90r10 : Pc := .reg f90o10 [1, 22, 23, 24, 33] []
abbrev f90o11 : List (Nat × Pop) := [
  (0, ⟨(some 2), .mv (.c (.t (.b false))), none⟩)]
abbrev f90r11 : Pc := .reg f90o11 [2] [1]
abbrev f90o12 : List (Nat × Pop) := [
  (0, ⟨(some 34), .bin .add (.tmp 24) (.c (.t (.i .i64 1))), none⟩),
  (1, ⟨(some 24), .mv (.tmp 34), none⟩)]
abbrev f90r12 : Pc := .reg f90o12 [1, 22, 23, 24] []
def f90l1 : Pc := (.seq f90r8 (.seq (.cond (.tmp 25) .skip (.exit 2)) (.seq (.block 3 (.seq f90r9 (.seq f90r10 (.cond (.tmp 33) (.seq f90r11 .ret) .skip)))) f90r12)))
theorem f90l1e (C : Cfg) (s : St) : evL C f90l1 s = evL C (.seq f90r8 (.seq (.cond (.tmp 25) .skip (.exit 2)) (.seq (.block 3 (.seq f90r9 (.seq f90r10 (.cond (.tmp 33) (.seq f90r11 .ret) .skip)))) f90r12))) s := rfl
abbrev f90o13 : List (Nat × Pop) := [
  (0, ⟨(some 35), .fad 0 (.tmp 1), none⟩),
  (1, ⟨(some 36), .load false 1 (.tmp 35), none⟩),
  (2, ⟨(some 37), .bin .geq (.tmp 36) (.c (.t (.i .i64 1))), none⟩),
  (3, ⟨(some 38), .mv (.tmp 37), none⟩),
  (4, ⟨(some 39), .fad 0 (.tmp 1), (some (38, true))⟩),
  (5, ⟨(some 40), .load false 1 (.tmp 39), (some (38, true))⟩),
  (6, ⟨(some 41), .bin .leq (.tmp 40) (.c (.t (.i .i64 4))), (some (38, true))⟩),
  (7, ⟨(some 42), .pick (.tmp 38) (.tmp 41) (.c (.t (.b false))), none⟩),
  (8, ⟨(some 43), .mv (.tmp 42), none⟩),
  (9, ⟨(some 44), .fad 10 (.tmp 1), (some (43, true))⟩),
  (10, ⟨(some 45), .load false 1 (.tmp 44), (some (43, true))⟩),
  (11, ⟨(some 46), .lenL (.tmp 45), (some (43, true))⟩),
  (12, ⟨(some 47), .bin .leq (.tmp 46) (.c (.t (.i .i64 8))), (some (43, true))⟩),
  (13, ⟨(some 48), .pick (.tmp 43) (.tmp 47) (.c (.t (.b false))), none⟩),
  (14, ⟨(some 2), .mv (.tmp 48), none⟩)]
abbrev f90r13 : Pc := .reg f90o13 [2] [1]
abbrev f90b : Pc := (.seq f90r0 (.seq (.seq f90r1 (.block 0 (.loop f90l0))) (.seq (.seq f90r7 (.block 2 (.loop f90l1))) (.seq f90r13 .ret))))
abbrev f90 : Pfn := ⟨1, 49, [.tmp 2], f90b⟩
def f90K : Array (List Nat) := #[[1], [1, 8, 9, 10], [1, 8, 9, 10, 11], [1, 4, 8, 9, 10], [1, 8, 9, 10, 19], [2], [1, 8, 9, 10], [1, 22, 23, 24], [1, 22, 23, 24, 25], [1, 6, 22, 23, 24], [1, 22, 23, 24, 33], [2], [1, 22, 23, 24], [2]]
def f90H : Array (List Nat) := #[[], [], [], [], [], [1, 8], [], [8], [], [], [], [1], [], [1]]
def f90A : Ann := ⟨fun r => f90K.getD r [], fun r => f90H.getD r [], fun r i => ([] : List (Nat × Nat)).contains (r, i)⟩
theorem f90C : compF Go.Proofs.Tryz.prog f90A 90 = some f90 := by kernel_rfl

/-- slices.IndexFunc[[]switchboard/model.Part,switchboard/model.Part] -/
abbrev f91o0 : List (Nat × Pop) := [
  (0, ⟨(some 4), .mv (.c (.t (.i .i64 0))), none⟩)]
abbrev f91r0 : Pc := .reg f91o0 [0, 1] []
abbrev f91o1 : List (Nat × Pop) := [
  (0, ⟨(some 6), .mv (.tmp 0), none⟩),
  (1, ⟨(some 7), .lenL (.tmp 6), none⟩),
  (2, ⟨(some 8), .mv (.c (.t (.i .i64 0))), none⟩)]
abbrev f91r1 : Pc := .reg f91o1 [0, 1, 7, 8] []
abbrev f91o2 : List (Nat × Pop) := [
  (0, ⟨(some 9), .bin .lss (.tmp 8) (.tmp 7), none⟩)]
abbrev f91r2 : Pc := .reg f91o2 [0, 1, 7, 8, 9] []
abbrev f91o3 : List (Nat × Pop) := [
  (0, ⟨(some 10), .mv (.tmp 8), none⟩),
  (1, ⟨(some 5), .mv (.tmp 10), none⟩)]
abbrev f91r3 : Pc := .reg f91o3 [0, 1, 5, 7, 8] []
abbrev f91o4 : List (Nat × Pop) := [
  (0, ⟨(some 11), .mv (.tmp 1), none⟩),
  (1, ⟨(some 12), .mv (.tmp 0), none⟩),
  (2, ⟨(some 13), .mv (.tmp 5), none⟩),
  (3, ⟨(some 14), .ixS 4 (.tmp 12) (.tmp 13), none⟩),
  (4, ⟨(some 15), .load true 4 (.tmp 14), none⟩),
  (5, ⟨(some 16), .callv (.tmp 11) [(.tmp 15)], none⟩)]
abbrev f91r4 : Pc := .reg f91o4 [0, 1, 5, 7, 8, 16] []
abbrev f91o5 : List (Nat × Pop) := [
  (0, ⟨(some 17), .mv (.tmp 5), none⟩),
  (1, ⟨(some 4), .mv (.tmp 17), none⟩)]
abbrev f91r5 : Pc := .reg f91o5 [4] []
abbrev f91o6 : List (Nat × Pop) := [
  (0, ⟨(some 18), .bin .add (.tmp 8) (.c (.t (.i .i64 1))), none⟩),
  (1, ⟨(some 8), .mv (.tmp 18), none⟩)]
abbrev f91r6 : Pc := .reg f91o6 [0, 1, 7, 8] []
def f91l0 : Pc := (.seq f91r2 (.seq (.cond (.tmp 9) .skip (.exit 0)) (.seq (.block 1 (.seq f91r3 (.seq f91r4 (.cond (.tmp 16) (.seq f91r5 .ret) .skip)))) f91r6)))
theorem f91l0e (C : Cfg) (s : St) : evL C f91l0 s = evL C (.seq f91r2 (.seq (.cond (.tmp 9) .skip (.exit 0)) (.seq (.block 1 (.seq f91r3 (.seq f91r4 (.cond (.tmp 16) (.seq f91r5 .ret) .skip)))) f91r6))) s := rfl
abbrev f91o7 : List (Nat × Pop) := [
  (0, ⟨(some 4), .mv (.c (.t (.i .i64 (-1)))), none⟩)]
abbrev f91r7 : Pc := .reg f91o7 [4] []
abbrev f91b : Pc := (.seq f91r0 (.seq (.seq f91r1 (.block 0 (.loop f91l0))) (.seq f91r7 .ret)))
abbrev f91 : Pfn := ⟨2, 19, [.tmp 4], f91b⟩
def f91K : Array (List Nat) := #[[0, 1], [0, 1, 7, 8], [0, 1, 7, 8, 9], [0, 1, 5, 7, 8], [0, 1, 5, 7, 8, 16], [4], [0, 1, 7, 8], [4]]
def f91H : Array (List Nat) := #[[], [], [], [], [], [], [], []]
def f91A : Ann := ⟨fun r => f91K.getD r [], fun r => f91H.getD r [], fun r i => ([] : List (Nat × Nat)).contains (r, i)⟩
theorem f91C : compF Go.Proofs.Tryz.prog f91A 91 = some f91 := by kernel_rfl

/-- (*switchboard/fleet.Fleet).answer$1 -/
abbrev f92o0 : List (Nat × Pop) := [
  (0, ⟨(some 2), .box 110 4 (.tmp 0), none⟩),
  (1, ⟨(some 3), .mv (.c (.t (.b false))), none⟩)]
abbrev f92r0 : Pc := .reg f92o0 [1, 2] []
abbrev f92o1 : List (Nat × Pop) := [
  (0, ⟨(some 4), .fad 0 (.tmp 2), none⟩),
  (1, ⟨(some 5), .load false 1 (.tmp 4), none⟩),
  (2, ⟨(some 6), .fad 6 (.tmp 1), none⟩),
  (3, ⟨(some 7), .load false 1 (.tmp 6), none⟩),
  (4, ⟨(some 8), .bin .eql (.tmp 5) (.tmp 7), none⟩),
  (5, ⟨(some 9), .mv (.tmp 8), none⟩),
  (6, ⟨(some 10), .fad 1 (.tmp 2), (some (9, true))⟩),
  (7, ⟨(some 11), .load false 1 (.tmp 10), (some (9, true))⟩),
  (8, ⟨(some 12), .fad 7 (.tmp 1), (some (9, true))⟩),
  (9, ⟨(some 13), .load false 1 (.tmp 12), (some (9, true))⟩),
  (10, ⟨(some 14), .bin .eql (.tmp 11) (.tmp 13), (some (9, true))⟩),
  (11, ⟨(some 15), .pick (.tmp 9) (.tmp 14) (.c (.t (.b false))), none⟩),
  (12, ⟨(some 16), .mv (.tmp 15), none⟩),
  (13, ⟨(some 17), .fad 2 (.tmp 2), (some (16, true))⟩),
  (14, ⟨(some 18), .load false 1 (.tmp 17), (some (16, true))⟩),
  (15, ⟨(some 19), .fad 8 (.tmp 1), (some (16, true))⟩),
  (16, ⟨(some 20), .load false 1 (.tmp 19), (some (16, true))⟩),
  (17, ⟨(some 21), .bin .eql (.tmp 18) (.tmp 20), (some (16, true))⟩),
  (18, ⟨(some 22), .pick (.tmp 16) (.tmp 21) (.c (.t (.b false))), none⟩),
  (19, ⟨(some 3), .mv (.tmp 22), none⟩)]
abbrev f92r1 : Pc := .reg f92o1 [3] [2]
abbrev f92b : Pc := (.seq f92r0 (.seq f92r1 .ret))
abbrev f92 : Pfn := ⟨2, 23, [.tmp 3], f92b⟩
def f92K : Array (List Nat) := #[[1, 2], [3]]
def f92H : Array (List Nat) := #[[], [2]]
def f92A : Ann := ⟨fun r => f92K.getD r [], fun r => f92H.getD r [], fun r i => ([] : List (Nat × Nat)).contains (r, i)⟩
theorem f92C : compF Go.Proofs.Tryz.prog f92A 92 = some f92 := by kernel_rfl

/-- switchboard/node.fits -/
abbrev f93o0 : List (Nat × Pop) := [
  (0, ⟨(some 4), .box 24 2 (.tmp 0), none⟩),
  (1, ⟨(some 5), .box 27 2 (.tmp 1), none⟩),
  (2, ⟨(some 7), .box 44 11 (.tmp 3), none⟩),
  (3, ⟨(some 8), .mv (.c (.t (.b false))), none⟩)]
abbrev f93r0 : Pc := .reg f93o0 [2, 4, 5, 7] []
abbrev f93o1 : List (Nat × Pop) := [
  (0, ⟨(some 9), .load true 2 (.tmp 4), none⟩),
  (1, ⟨(some 10), .callq 30 [(.tmp 9)], none⟩),
  (2, ⟨(some 11), .mv (.tmp 10), none⟩),
  (3, ⟨(some 12), .load true 2 (.tmp 5), (some (11, true))⟩),
  (4, ⟨(some 13), .callq 32 [(.tmp 12)], (some (11, true))⟩),
  (5, ⟨(some 14), .pick (.tmp 11) (.tmp 13) (.c (.t (.b false))), none⟩),
  (6, ⟨(some 15), .mv (.tmp 14), none⟩),
  (7, ⟨(some 16), .load true 11 (.tmp 7), (some (15, true))⟩),
  (8, ⟨(some 17), .callq 90 [(.tmp 16)], (some (15, true))⟩),
  (9, ⟨(some 18), .pick (.tmp 15) (.tmp 17) (.c (.t (.b false))), none⟩),
  (10, ⟨(some 19), .mv (.tmp 18), none⟩),
  (11, ⟨(some 20), .fad 0 (.tmp 7), (some (19, true))⟩),
  (12, ⟨(some 21), .load false 1 (.tmp 20), (some (19, true))⟩),
  (13, ⟨(some 22), .bin .eql (.tmp 21) (.c (.t (.i .i64 1))), (some (19, true))⟩),
  (14, ⟨(some 23), .pick (.tmp 19) (.tmp 22) (.c (.t (.b false))), none⟩),
  (15, ⟨(some 24), .mv (.tmp 23), none⟩),
  (16, ⟨(some 25), .fad 2 (.tmp 7), (some (24, true))⟩),
  (17, ⟨(some 26), .load false 1 (.tmp 25), (some (24, true))⟩),
  (18, ⟨(some 27), .mv (.tmp 2), (some (24, true))⟩),
  (19, ⟨(some 28), .bin .eql (.tmp 26) (.tmp 27), (some (24, true))⟩),
  (20, ⟨(some 29), .pick (.tmp 24) (.tmp 28) (.c (.t (.b false))), none⟩),
  (21, ⟨(some 30), .mv (.tmp 29), none⟩),
  (22, ⟨(some 31), .fad 5 (.tmp 7), (some (30, true))⟩),
  (23, ⟨(some 32), .load false 1 (.tmp 31), (some (30, true))⟩),
  (24, ⟨(some 33), .fad 1 (.tmp 4), (some (30, true))⟩),
  (25, ⟨(some 34), .load false 1 (.tmp 33), (some (30, true))⟩),
  (26, ⟨(some 35), .lenL (.tmp 34), (some (30, true))⟩),
  (27, ⟨(some 36), .bin .lss (.tmp 32) (.tmp 35), (some (30, true))⟩),
  (28, ⟨(some 37), .pick (.tmp 30) (.tmp 36) (.c (.t (.b false))), none⟩),
  (29, ⟨(some 38), .mv (.tmp 37), none⟩),
  (30, ⟨(some 39), .fad 8 (.tmp 7), (some (38, true))⟩),
  (31, ⟨(some 40), .load false 1 (.tmp 39), (some (38, true))⟩),
  (32, ⟨(some 41), .fad 1 (.tmp 4), (some (38, true))⟩),
  (33, ⟨(some 42), .load false 1 (.tmp 41), (some (38, true))⟩),
  (34, ⟨(some 43), .fad 5 (.tmp 7), (some (38, true))⟩),
  (35, ⟨(some 44), .load false 1 (.tmp 43), (some (38, true))⟩),
  (36, ⟨(some 45), .ixS 3 (.tmp 42) (.tmp 44), (some (38, true))⟩),
  (37, ⟨(some 46), .fad 1 (.tmp 45), (some (38, true))⟩),
  (38, ⟨(some 47), .load false 1 (.tmp 46), (some (38, true))⟩),
  (39, ⟨(some 48), .lenL (.tmp 47), (some (38, true))⟩),
  (40, ⟨(some 49), .bin .lss (.tmp 40) (.tmp 48), (some (38, true))⟩),
  (41, ⟨(some 50), .pick (.tmp 38) (.tmp 49) (.c (.t (.b false))), none⟩),
  (42, ⟨(some 51), .mv (.tmp 50), none⟩),
  (43, ⟨(some 52), .load true 2 (.tmp 4), (some (51, true))⟩),
  (44, ⟨(some 53), .fad 10 (.tmp 7), (some (51, true))⟩),
  (45, ⟨(some 54), .load false 1 (.tmp 53), (some (51, true))⟩),
  (46, ⟨(some 55), .bslF 1 [(.tmp 54)], (some (51, true))⟩),
  (47, ⟨(some 56), .callq 31 [(.tmp 52), (.tmp 55)], (some (51, true))⟩),
  (48, ⟨(some 57), .pick (.tmp 51) (.tmp 56) (.c (.t (.b false))), none⟩),
  (49, ⟨(some 8), .mv (.tmp 57), none⟩)]
abbrev f93r1 : Pc := .reg f93o1 [8] [4, 5, 7]
abbrev f93b : Pc := (.seq f93r0 (.seq f93r1 .ret))
abbrev f93 : Pfn := ⟨4, 58, [.tmp 8], f93b⟩
def f93K : Array (List Nat) := #[[2, 4, 5, 7], [8]]
def f93H : Array (List Nat) := #[[], [4, 5, 7]]
def f93A : Ann := ⟨fun r => f93K.getD r [], fun r => f93H.getD r [], fun r i => ([] : List (Nat × Nat)).contains (r, i)⟩
theorem f93C : compF Go.Proofs.Tryz.prog f93A 93 = some f93 := by kernel_rfl

/-- switchboard/ledger.Find -/
abbrev f94o0 : List (Nat × Pop) := [
  (0, ⟨(some 3), .box 137 4 (.tmp 1), none⟩),
  (1, ⟨(some 4), .nilv 3 1, none⟩),
  (2, ⟨(some 5), .mv (.c (.t (.b false))), none⟩)]
abbrev f94r0 : Pc := .reg f94o0 [0, 3] [4, 17]
abbrev f94o1 : List (Nat × Pop) := [
  (0, ⟨(some 7), .mv (.tmp 0), none⟩),
  (1, ⟨(some 8), .mkfn 119 [(.tmp 3)], none⟩),
  (2, ⟨(some 9), .call 118 [(.tmp 7), (.tmp 8)], none⟩),
  (3, ⟨(some 6), .mv (.tmp 9), none⟩)]
abbrev f94r1 : Pc := .reg f94o1 [0, 6] []
abbrev f94o2 : List (Nat × Pop) := [
  (0, ⟨(some 10), .mv (.tmp 6), none⟩),
  (1, ⟨(some 11), .bin .lss (.tmp 10) (.c (.t (.i .i64 0))), none⟩)]
abbrev f94r2 : Pc := .reg f94o2 [0, 6, 11] []
abbrev f94o3 : List (Nat × Pop) := [
  (0, ⟨(some 4), .nilv 3 1, none⟩),
  (1, ⟨(some 5), .mv (.c (.t (.b false))), none⟩)]
abbrev f94r3 : Pc := .reg f94o3 [4, 5] [3]
abbrev f94o4 : List (Nat × Pop) := [
  (0, ⟨(some 12), .mv (.tmp 0), none⟩),
  (1, ⟨(some 13), .mv (.tmp 6), none⟩),
  (2, ⟨(some 14), .ixS 5 (.tmp 12) (.tmp 13), none⟩),
  (3, ⟨(some 15), .fad 4 (.tmp 14), none⟩),
  (4, ⟨(some 16), .load false 1 (.tmp 15), none⟩),
  (5, ⟨(some 17), .call 58 [(.tmp 16)], none⟩),
  (6, ⟨(some 4), .mv (.tmp 17), none⟩),
  (7, ⟨(some 5), .mv (.c (.t (.b true))), none⟩)]
abbrev f94r4 : Pc := .reg f94o4 [4, 5] [3]
abbrev f94b : Pc := (.seq f94r0 (.seq f94r1 (.seq (.seq f94r2 (.cond (.tmp 11) (.seq f94r3 .ret) .skip)) (.seq f94r4 .ret))))
abbrev f94 : Pfn := ⟨2, 18, [.tmp 4, .tmp 5], f94b⟩
def f94K : Array (List Nat) := #[[0, 3], [0, 6], [0, 6, 11], [4, 5], [4, 5]]
def f94H : Array (List Nat) := #[[4, 17], [], [], [3], [3]]
def f94A : Ann := ⟨fun r => f94K.getD r [], fun r => f94H.getD r [], fun r i => ([] : List (Nat × Nat)).contains (r, i)⟩
theorem f94C : compF Go.Proofs.Tryz.prog f94A 94 = some f94 := by kernel_rfl

/-- switchboard/expert.Run -/
abbrev f95o0 : List (Nat × Pop) := [
  (0, ⟨(some 2), .box 67 2 (.tmp 0), none⟩),
  (1, ⟨(some 4), .nilv 3 1, none⟩),
  (2, ⟨(some 5), .mv (.c (.t (.b false))), none⟩)]
abbrev f95r0 : Pc := .reg f95o0 [1, 2] [4]
abbrev f95o1 : List (Nat × Pop) := [
  (0, ⟨(some 8), .load true 2 (.tmp 2), none⟩),
  (1, ⟨(some 9), .mv (.tmp 1), none⟩),
  (2, ⟨(some 10), .lenL (.tmp 9), none⟩),
  (3, ⟨(some 11), .call 107 [(.tmp 8), (.tmp 10)], none⟩),
  (4, ⟨(some 12), .un .not (.tmp 11), none⟩)]
abbrev f95r1 : Pc := .reg f95o1 [1, 2, 12] []
abbrev f95o2 : List (Nat × Pop) := [
  (0, ⟨(some 4), .nilv 3 1, none⟩),
  (1, ⟨(some 5), .mv (.c (.t (.b false))), none⟩)]
abbrev f95r2 : Pc := .reg f95o2 [4, 5] [2]
abbrev f95o3 : List (Nat × Pop) := [
  (0, ⟨(some 14), .fad 0 (.tmp 2), none⟩),
  (1, ⟨(some 15), .load false 1 (.tmp 14), none⟩),
  (2, ⟨(some 16), .mv (.tmp 1), none⟩),
  (3, ⟨(some 17), .call 120 [(.tmp 15), (.tmp 16)], none⟩),
  (4, ⟨(some 13), .mv (.tmp 17), none⟩),
  (5, ⟨(some 18), .ext 0 (.tmp 13), none⟩),
  (6, ⟨(some 19), .ext 1 (.tmp 13), none⟩),
  (7, ⟨(some 6), .mv (.tmp 18), none⟩),
  (8, ⟨(some 7), .mv (.tmp 19), none⟩)]
abbrev f95r3 : Pc := .reg f95o3 [2, 6] []
abbrev f95o4 : List (Nat × Pop) := [
  (0, ⟨(some 20), .fad 1 (.tmp 2), none⟩),
  (1, ⟨(some 21), .load false 1 (.tmp 20), none⟩),
  (2, ⟨(some 22), .mv (.tmp 6), none⟩),
  (3, ⟨(some 23), .callq 121 [(.tmp 22)], none⟩),
  (4, ⟨(some 24), .callq 120 [(.tmp 21), (.tmp 23)], none⟩),
  (5, ⟨(some 25), .ext 0 (.tmp 24), none⟩),
  (6, ⟨(some 26), .ext 1 (.tmp 24), none⟩),
  (7, ⟨(some 4), .mv (.tmp 25), none⟩),
  (8, ⟨(some 5), .mv (.tmp 26), none⟩)]
abbrev f95r4 : Pc := .reg f95o4 [4, 5] [2]
abbrev f95b : Pc := (.seq f95r0 (.seq (.seq f95r1 (.cond (.tmp 12) (.seq f95r2 .ret) .skip)) (.seq f95r3 (.seq f95r4 .ret))))
abbrev f95 : Pfn := ⟨2, 27, [.tmp 4, .tmp 5], f95b⟩
def f95K : Array (List Nat) := #[[1, 2], [1, 2, 12], [4, 5], [2, 6], [4, 5]]
def f95H : Array (List Nat) := #[[4], [], [2], [], [2]]
def f95A : Ann := ⟨fun r => f95K.getD r [], fun r => f95H.getD r [], fun r i => ([] : List (Nat × Nat)).contains (r, i)⟩
theorem f95C : compF Go.Proofs.Tryz.prog f95A 95 = some f95 := by kernel_rfl

/-- switchboard/ledger.Enter -/
abbrev f96o0 : List (Nat × Pop) := [
  (0, ⟨(some 4), .box 137 4 (.tmp 1), none⟩),
  (1, ⟨(some 6), .nilv 165 5, none⟩),
  (2, ⟨(some 7), .mv (.c (.t (.b false))), none⟩)]
abbrev f96r0 : Pc := .reg f96o0 [0, 2, 4] [6, 19, 25]
abbrev f96o1 : List (Nat × Pop) := [
  (0, ⟨(some 11), .mv (.tmp 0), none⟩),
  (1, ⟨(some 12), .load true 4 (.tmp 4), none⟩),
  (2, ⟨(some 13), .call 94 [(.tmp 11), (.tmp 12)], none⟩),
  (3, ⟨(some 10), .mv (.tmp 13), none⟩),
  (4, ⟨(some 14), .ext 0 (.tmp 10), none⟩),
  (5, ⟨(some 15), .ext 1 (.tmp 10), none⟩),
  (6, ⟨(some 8), .mv (.tmp 14), none⟩),
  (7, ⟨(some 9), .mv (.tmp 15), none⟩)]
abbrev f96r1 : Pc := .reg f96o1 [0, 2, 4, 9] []
abbrev f96o2 : List (Nat × Pop) := [
  (0, ⟨(some 16), .mv (.tmp 9), none⟩)]
abbrev f96r2 : Pc := .reg f96o2 [0, 2, 4, 16] []
abbrev f96o3 : List (Nat × Pop) := [
  (0, ⟨(some 17), .mv (.tmp 0), none⟩),
  (1, ⟨(some 6), .mv (.tmp 17), none⟩),
  (2, ⟨(some 7), .mv (.c (.t (.b false))), none⟩)]
abbrev f96r3 : Pc := .reg f96o3 [6, 7] [4]
abbrev f96o4 : List (Nat × Pop) := [
  (0, ⟨(some 18), .mv (.tmp 0), none⟩),
  (1, ⟨(some 19), .callo 122 [(.tmp 18)], none⟩),
  (2, ⟨(some 20), .loadB true 4 (.tmp 4), none⟩),
  (3, ⟨(some 21), .mv (.tmp 2), none⟩),
  (4, ⟨(some 22), .callq 58 [(.tmp 21)], none⟩),
  (5, ⟨(some 23), .build [(.t (.i .i64 0)), (.t (.i .i64 0)), (.t (.i .i64 0)), (.t (.i .i64 0)), .nl] [(0, 4, (.tmp 20)), (4, 1, (.tmp 22))], none⟩),
  (6, ⟨(some 24), .bslT 5 [(.tmp 23)], none⟩),
  (7, ⟨(some 25), .app 165 5 56 (.tmp 19) (.tmp 24), none⟩),
  (8, ⟨(some 6), .mv (.tmp 25), none⟩),
  (9, ⟨(some 7), .mv (.c (.t (.b true))), none⟩)]
abbrev f96r4 : Pc := .reg f96o4 [6, 7] [4]
abbrev f96b : Pc := (.seq f96r0 (.seq (.seq f96r1 (.seq f96r2 (.cond (.tmp 16) (.seq f96r3 .ret) .skip))) (.seq f96r4 .ret)))
abbrev f96 : Pfn := ⟨3, 26, [.tmp 6, .tmp 7], f96b⟩
def f96K : Array (List Nat) := #[[0, 2, 4], [0, 2, 4, 9], [0, 2, 4, 16], [6, 7], [6, 7]]
def f96H : Array (List Nat) := #[[6, 19, 25], [], [], [4], [4]]
def f96A : Ann := ⟨fun r => f96K.getD r [], fun r => f96H.getD r [], fun r i => ([(4, 1), (4, 2)] : List (Nat × Nat)).contains (r, i)⟩
theorem f96C : compF Go.Proofs.Tryz.prog f96A 96 = some f96 := by kernel_rfl

/-- switchboard/wire.Put -/
abbrev f97o0 : List (Nat × Pop) := [
  (0, ⟨(some 1), .box 44 11 (.tmp 0), none⟩),
  (1, ⟨(some 2), .mv (.c (.t (.s []))), none⟩),
  (2, ⟨(some 3), .mv (.c (.t (.i .i64 0))), none⟩)]
abbrev f97r0 : Pc := .reg f97o0 [1] []
abbrev f97o1 : List (Nat × Pop) := [
  (0, ⟨(some 7), .load true 11 (.tmp 1), none⟩),
  (1, ⟨(some 8), .call 90 [(.tmp 7)], none⟩),
  (2, ⟨(some 9), .un .not (.tmp 8), none⟩)]
abbrev f97r1 : Pc := .reg f97o1 [1, 9] []
abbrev f97o2 : List (Nat × Pop) := [
  (0, ⟨(some 2), .mv (.c (.t (.s []))), none⟩),
  (1, ⟨(some 3), .mv (.c (.t (.i .i64 1))), none⟩)]
abbrev f97r2 : Pc := .reg f97o2 [2, 3] [1]
abbrev f97o3 : List (Nat × Pop) := [
  (0, ⟨(some 4), .mv (.c (.t (.s []))), none⟩)]
abbrev f97r3 : Pc := .reg f97o3 [1, 4] []
abbrev f97o4 : List (Nat × Pop) := [
  (0, ⟨(some 10), .load true 11 (.tmp 1), none⟩),
  (1, ⟨(some 11), .callo 117 [(.tmp 10)], none⟩),
  (2, ⟨(some 12), .fad 10 (.tmp 1), none⟩),
  (3, ⟨(some 13), .loadB false 1 (.tmp 12), none⟩),
  (4, ⟨(some 14), .lenL (.tmp 13), none⟩),
  (5, ⟨(some 15), .bslF 1 [(.tmp 14)], none⟩),
  (6, ⟨(some 16), .appU 3 1 8 (.tmp 11) (.tmp 15), none⟩),
  (7, ⟨(some 17), .fad 10 (.tmp 1), none⟩),
  (8, ⟨(some 18), .loadB false 1 (.tmp 17), none⟩),
  (9, ⟨(some 19), .app 3 1 8 (.tmp 16) (.tmp 18), none⟩),
  (10, ⟨(some 20), .lenL (.tmp 19), none⟩),
  (11, ⟨(some 21), .mv (.c (.t (.i .i64 0))), none⟩)]
abbrev f97r4 : Pc := .reg f97o4 [4, 19, 20, 21] [1]
abbrev f97o5 : List (Nat × Pop) := [
  (0, ⟨(some 22), .bin .lss (.tmp 21) (.tmp 20), none⟩)]
abbrev f97r5 : Pc := .reg f97o5 [4, 19, 20, 21, 22] []
abbrev f97o6 : List (Nat × Pop) := [
  (0, ⟨(some 23), .ixS 1 (.tmp 19) (.tmp 21), none⟩),
  (1, ⟨(some 24), .load false 1 (.tmp 23), none⟩),
  (2, ⟨(some 6), .mv (.tmp 24), none⟩)]
abbrev f97r6 : Pc := .reg f97o6 [4, 6, 19, 20, 21] []
abbrev f97o7 : List (Nat × Pop) := [
  (0, ⟨(some 25), .mv (.tmp 4), none⟩),
  (1, ⟨(some 26), .mv (.tmp 6), none⟩),
  (2, ⟨(some 27), .call 123 [(.tmp 26)], none⟩),
  (3, ⟨(some 28), .bin .add (.tmp 25) (.tmp 27), none⟩),
  (4, ⟨(some 4), .mv (.tmp 28), none⟩)]
abbrev f97r7 : Pc := .reg f97o7 [4, 19, 20, 21] []
abbrev f97o8 : List (Nat × Pop) := [
  (0, ⟨(some 29), .bin .add (.tmp 21) (.c (.t (.i .i64 1))), none⟩),
  (1, ⟨(some 21), .mv (.tmp 29), none⟩)]
abbrev f97r8 : Pc := .reg f97o8 [4, 19, 20, 21] []
def f97l0 : Pc := (.seq f97r5 (.seq (.cond (.tmp 22) .skip (.exit 0)) (.seq (.block 1 (.seq f97r6 f97r7)) f97r8)))
theorem f97l0e (C : Cfg) (s : St) : evL C f97l0 s = evL C (.seq f97r5 (.seq (.cond (.tmp 22) .skip (.exit 0)) (.seq (.block 1 (.seq f97r6 f97r7)) f97r8))) s := rfl
abbrev f97o9 : List (Nat × Pop) := [
  (0, ⟨(some 30), .mv (.tmp 4), none⟩),
  (1, ⟨(some 31), .mv (.tmp 4), none⟩),
  (2, ⟨(some 32), .call 88 [(.tmp 31)], none⟩),
  (3, ⟨(some 33), .call 123 [(.tmp 32)], none⟩),
  (4, ⟨(some 34), .bin .add (.tmp 30) (.tmp 33), none⟩),
  (5, ⟨(some 4), .mv (.tmp 34), none⟩)]
abbrev f97r9 : Pc := .reg f97o9 [4] [11, 16, 19]
abbrev f97o10 : List (Nat × Pop) := [
  (0, ⟨(some 35), .mv (.tmp 4), none⟩),
  (1, ⟨(some 36), .lenS (.tmp 35), none⟩),
  (2, ⟨(some 37), .call 123 [(.tmp 36)], none⟩),
  (3, ⟨(some 38), .mv (.tmp 4), none⟩),
  (4, ⟨(some 39), .bin .add (.tmp 37) (.tmp 38), none⟩),
  (5, ⟨(some 2), .mv (.tmp 39), none⟩),
  (6, ⟨(some 3), .mv (.c (.t (.i .i64 0))), none⟩)]
abbrev f97r10 : Pc := .reg f97o10 [2, 3] []
abbrev f97b : Pc := (.seq f97r0 (.seq (.seq f97r1 (.cond (.tmp 9) (.seq f97r2 .ret) .skip)) (.seq f97r3 (.seq (.seq f97r4 (.block 0 (.loop f97l0))) (.seq f97r9 (.seq f97r10 .ret))))))
abbrev f97 : Pfn := ⟨1, 40, [.tmp 2, .tmp 3], f97b⟩
def f97K : Array (List Nat) := #[[1], [1, 9], [2, 3], [1, 4], [4, 19, 20, 21], [4, 19, 20, 21, 22], [4, 6, 19, 20, 21], [4, 19, 20, 21], [4, 19, 20, 21], [4], [2, 3]]
def f97H : Array (List Nat) := #[[], [], [1], [], [1], [], [], [], [], [11, 16, 19], []]
def f97A : Ann := ⟨fun r => f97K.getD r [], fun r => f97H.getD r [], fun r i => ([(4, 8), (4, 3), (4, 2006), (4, 1)] : List (Nat × Nat)).contains (r, i)⟩
theorem f97C : compF Go.Proofs.Tryz.prog f97A 97 = some f97 := by kernel_rfl

/-- switchboard/bag.Put -/
abbrev f98o0 : List (Nat × Pop) := [
  (0, ⟨(some 4), .nilv 9 1, none⟩)]
abbrev f98r0 : Pc := .reg f98o0 [0, 1] [4, 7, 14]
abbrev f98o1 : List (Nat × Pop) := [
  (0, ⟨(some 6), .mv (.tmp 0), none⟩),
  (1, ⟨(some 7), .call 41 [(.tmp 6)], none⟩),
  (2, ⟨(some 5), .mv (.tmp 7), none⟩)]
abbrev f98r1 : Pc := .reg f98o1 [0, 1, 5] []
abbrev f98o2 : List (Nat × Pop) := [
  (0, ⟨(some 8), .mv (.tmp 0), none⟩),
  (1, ⟨(some 9), .lenL (.tmp 8), none⟩),
  (2, ⟨(some 10), .bin .lss (.tmp 9) (.c (.t (.i .i64 200))), none⟩)]
abbrev f98r2 : Pc := .reg f98o2 [1, 5, 10] []
abbrev f98o3 : List (Nat × Pop) := [
  (0, ⟨(some 11), .mv (.tmp 5), none⟩),
  (1, ⟨(some 12), .mv (.tmp 1), none⟩),
  (2, ⟨(some 13), .bslT 1 [(.tmp 12)], none⟩),
  (3, ⟨(some 14), .app 9 1 16 (.tmp 11) (.tmp 13), none⟩),
  (4, ⟨(some 5), .mv (.tmp 14), none⟩)]
abbrev f98r3 : Pc := .reg f98o3 [5] []
abbrev f98o4 : List (Nat × Pop) := [
  (0, ⟨(some 15), .mv (.tmp 5), none⟩),
  (1, ⟨(some 4), .mv (.tmp 15), none⟩)]
abbrev f98r4 : Pc := .reg f98o4 [4] []
abbrev f98b : Pc := (.seq f98r0 (.seq f98r1 (.seq (.seq f98r2 (.cond (.tmp 10) f98r3 .skip)) (.seq f98r4 .ret))))
abbrev f98 : Pfn := ⟨2, 16, [.tmp 4], f98b⟩
def f98K : Array (List Nat) := #[[0, 1], [0, 1, 5], [1, 5, 10], [5], [4]]
def f98H : Array (List Nat) := #[[4, 7, 14], [], [], [], []]
def f98A : Ann := ⟨fun r => f98K.getD r [], fun r => f98H.getD r [], fun r i => ([] : List (Nat × Nat)).contains (r, i)⟩
theorem f98C : compF Go.Proofs.Tryz.prog f98A 98 = some f98 := by kernel_rfl

/-- slices.Contains[[]int,int] -/
abbrev f99o0 : List (Nat × Pop) := [
  (0, ⟨(some 4), .mv (.c (.t (.b false))), none⟩)]
abbrev f99r0 : Pc := .reg f99o0 [0, 1] []
abbrev f99o1 : List (Nat × Pop) := [
  (0, ⟨(some 5), .mv (.tmp 0), none⟩),
  (1, ⟨(some 6), .mv (.tmp 1), none⟩),
  (2, ⟨(some 7), .call 124 [(.tmp 5), (.tmp 6)], none⟩),
  (3, ⟨(some 8), .bin .geq (.tmp 7) (.c (.t (.i .i64 0))), none⟩),
  (4, ⟨(some 4), .mv (.tmp 8), none⟩)]
abbrev f99r1 : Pc := .reg f99o1 [4] []
abbrev f99b : Pc := (.seq f99r0 (.seq f99r1 .ret))
abbrev f99 : Pfn := ⟨2, 9, [.tmp 4], f99b⟩
def f99K : Array (List Nat) := #[[0, 1], [4]]
def f99H : Array (List Nat) := #[[], []]
def f99A : Ann := ⟨fun r => f99K.getD r [], fun r => f99H.getD r [], fun r i => ([] : List (Nat × Nat)).contains (r, i)⟩
theorem f99C : compF Go.Proofs.Tryz.prog f99A 99 = some f99 := by kernel_rfl

/-- slices.IndexFunc[[]int,int] -/
abbrev f102o0 : List (Nat × Pop) := [
  (0, ⟨(some 4), .mv (.c (.t (.i .i64 0))), none⟩)]
abbrev f102r0 : Pc := .reg f102o0 [0, 1] []
abbrev f102o1 : List (Nat × Pop) := [
  (0, ⟨(some 6), .mv (.tmp 0), none⟩),
  (1, ⟨(some 7), .lenL (.tmp 6), none⟩),
  (2, ⟨(some 8), .mv (.c (.t (.i .i64 0))), none⟩)]
abbrev f102r1 : Pc := .reg f102o1 [0, 1, 7, 8] []
abbrev f102o2 : List (Nat × Pop) := [
  (0, ⟨(some 9), .bin .lss (.tmp 8) (.tmp 7), none⟩)]
abbrev f102r2 : Pc := .reg f102o2 [0, 1, 7, 8, 9] []
abbrev f102o3 : List (Nat × Pop) := [
  (0, ⟨(some 10), .mv (.tmp 8), none⟩),
  (1, ⟨(some 5), .mv (.tmp 10), none⟩)]
abbrev f102r3 : Pc := .reg f102o3 [0, 1, 5, 7, 8] []
abbrev f102o4 : List (Nat × Pop) := [
  (0, ⟨(some 11), .mv (.tmp 1), none⟩),
  (1, ⟨(some 12), .mv (.tmp 0), none⟩),
  (2, ⟨(some 13), .mv (.tmp 5), none⟩),
  (3, ⟨(some 14), .ixS 1 (.tmp 12) (.tmp 13), none⟩),
  (4, ⟨(some 15), .load false 1 (.tmp 14), none⟩),
  (5, ⟨(some 16), .callv (.tmp 11) [(.tmp 15)], none⟩)]
abbrev f102r4 : Pc := .reg f102o4 [0, 1, 5, 7, 8, 16] []
abbrev f102o5 : List (Nat × Pop) := [
  (0, ⟨(some 17), .mv (.tmp 5), none⟩),
  (1, ⟨(some 4), .mv (.tmp 17), none⟩)]
abbrev f102r5 : Pc := .reg f102o5 [4] []
abbrev f102o6 : List (Nat × Pop) := [
  (0, ⟨(some 18), .bin .add (.tmp 8) (.c (.t (.i .i64 1))), none⟩),
  (1, ⟨(some 8), .mv (.tmp 18), none⟩)]
abbrev f102r6 : Pc := .reg f102o6 [0, 1, 7, 8] []
def f102l0 : Pc := (.seq f102r2 (.seq (.cond (.tmp 9) .skip (.exit 0)) (.seq (.block 1 (.seq f102r3 (.seq f102r4 (.cond (.tmp 16) (.seq f102r5 .ret) .skip)))) f102r6)))
theorem f102l0e (C : Cfg) (s : St) : evL C f102l0 s = evL C (.seq f102r2 (.seq (.cond (.tmp 9) .skip (.exit 0)) (.seq (.block 1 (.seq f102r3 (.seq f102r4 (.cond (.tmp 16) (.seq f102r5 .ret) .skip)))) f102r6))) s := rfl
abbrev f102o7 : List (Nat × Pop) := [
  (0, ⟨(some 4), .mv (.c (.t (.i .i64 (-1)))), none⟩)]
abbrev f102r7 : Pc := .reg f102o7 [4] []
abbrev f102b : Pc := (.seq f102r0 (.seq (.seq f102r1 (.block 0 (.loop f102l0))) (.seq f102r7 .ret)))
abbrev f102 : Pfn := ⟨2, 19, [.tmp 4], f102b⟩
def f102K : Array (List Nat) := #[[0, 1], [0, 1, 7, 8], [0, 1, 7, 8, 9], [0, 1, 5, 7, 8], [0, 1, 5, 7, 8, 16], [4], [0, 1, 7, 8], [4]]
def f102H : Array (List Nat) := #[[], [], [], [], [], [], [], []]
def f102A : Ann := ⟨fun r => f102K.getD r [], fun r => f102H.getD r [], fun r i => ([] : List (Nat × Nat)).contains (r, i)⟩
theorem f102C : compF Go.Proofs.Tryz.prog f102A 102 = some f102 := by kernel_rfl

/-- switchboard/bag.Twice -/
abbrev f103o0 : List (Nat × Pop) := [
  (0, ⟨(some 4), .nilv 9 1, none⟩)]
abbrev f103r0 : Pc := .reg f103o0 [0, 1] [4, 14]
abbrev f103o1 : List (Nat × Pop) := [
  (0, ⟨(some 5), .mv (.tmp 1), none⟩),
  (1, ⟨(some 6), .bin .lss (.tmp 5) (.c (.t (.i .i64 0))), none⟩),
  (2, ⟨(some 7), .mv (.tmp 6), none⟩),
  (3, ⟨(some 8), .mv (.tmp 1), (some (7, false))⟩),
  (4, ⟨(some 9), .mv (.tmp 0), (some (7, false))⟩),
  (5, ⟨(some 10), .lenL (.tmp 9), (some (7, false))⟩),
  (6, ⟨(some 11), .bin .geq (.tmp 8) (.tmp 10), (some (7, false))⟩),
  (7, ⟨(some 12), .pick (.tmp 7) (.c (.t (.b true))) (.tmp 11), none⟩)]
abbrev f103r1 : Pc := .reg f103o1 [0, 1, 12] []
abbrev f103o2 : List (Nat × Pop) := [
  (0, ⟨(some 13), .mv (.tmp 0), none⟩),
  (1, ⟨(some 14), .call 41 [(.tmp 13)], none⟩),
  (2, ⟨(some 4), .mv (.tmp 14), none⟩)]
abbrev f103r2 : Pc := .reg f103o2 [4] []
abbrev f103o3 : List (Nat × Pop) := [
  (0, ⟨(some 15), .mv (.tmp 0), none⟩),
  (1, ⟨(some 16), .mv (.tmp 0), none⟩),
  (2, ⟨(some 17), .mv (.tmp 1), none⟩),
  (3, ⟨(some 18), .ixS 1 (.tmp 16) (.tmp 17), none⟩),
  (4, ⟨(some 19), .load false 1 (.tmp 18), none⟩),
  (5, ⟨(some 20), .call 98 [(.tmp 15), (.tmp 19)], none⟩),
  (6, ⟨(some 4), .mv (.tmp 20), none⟩)]
abbrev f103r3 : Pc := .reg f103o3 [4] []
abbrev f103b : Pc := (.seq f103r0 (.seq (.seq f103r1 (.cond (.tmp 12) (.seq f103r2 .ret) .skip)) (.seq f103r3 .ret)))
abbrev f103 : Pfn := ⟨2, 21, [.tmp 4], f103b⟩
def f103K : Array (List Nat) := #[[0, 1], [0, 1, 12], [4], [4]]
def f103H : Array (List Nat) := #[[4, 14], [], [], []]
def f103A : Ann := ⟨fun r => f103K.getD r [], fun r => f103H.getD r [], fun r i => ([] : List (Nat × Nat)).contains (r, i)⟩
theorem f103C : compF Go.Proofs.Tryz.prog f103A 103 = some f103 := by kernel_rfl

/-- switchboard/mat.Right -/
abbrev f104o0 : List (Nat × Pop) := [
  (0, ⟨(some 5), .box 3 1 (.tmp 2), none⟩),
  (1, ⟨(some 6), .mv (.c (.t (.b false))), none⟩)]
abbrev f104r0 : Pc := .reg f104o0 [0, 1, 5] []
abbrev f104o1 : List (Nat × Pop) := [
  (0, ⟨(some 7), .mv (.tmp 0), none⟩),
  (1, ⟨(some 8), .lenL (.tmp 7), none⟩),
  (2, ⟨(some 9), .mv (.tmp 1), none⟩),
  (3, ⟨(some 10), .bin .eql (.tmp 8) (.tmp 9), none⟩),
  (4, ⟨(some 11), .mv (.tmp 10), none⟩),
  (5, ⟨(some 12), .mv (.tmp 0), (some (11, true))⟩),
  (6, ⟨(some 13), .mkfn 136 [(.tmp 5)], (some (11, true))⟩),
  (7, ⟨(some 14), .call 67 [(.tmp 12), (.tmp 13)], (some (11, true))⟩),
  (8, ⟨(some 15), .un .not (.tmp 14), (some (11, true))⟩),
  (9, ⟨(some 16), .pick (.tmp 11) (.tmp 15) (.c (.t (.b false))), none⟩),
  (10, ⟨(some 6), .mv (.tmp 16), none⟩)]
abbrev f104r1 : Pc := .reg f104o1 [6] [5]
abbrev f104b : Pc := (.seq f104r0 (.seq f104r1 .ret))
abbrev f104 : Pfn := ⟨3, 17, [.tmp 6], f104b⟩
def f104K : Array (List Nat) := #[[0, 1, 5], [6]]
def f104H : Array (List Nat) := #[[], [5]]
def f104A : Ann := ⟨fun r => f104K.getD r [], fun r => f104H.getD r [], fun r i => ([] : List (Nat × Nat)).contains (r, i)⟩
theorem f104C : compF Go.Proofs.Tryz.prog f104A 104 = some f104 := by kernel_rfl

/-- slices.ContainsFunc[[]switchboard/api.Expert,switchboard/api.Expert] -/
abbrev f105o0 : List (Nat × Pop) := [
  (0, ⟨(some 4), .mv (.c (.t (.b false))), none⟩)]
abbrev f105r0 : Pc := .reg f105o0 [0, 1] []
abbrev f105o1 : List (Nat × Pop) := [
  (0, ⟨(some 5), .mv (.tmp 0), none⟩),
  (1, ⟨(some 6), .mv (.tmp 1), none⟩),
  (2, ⟨(some 7), .call 138 [(.tmp 5), (.tmp 6)], none⟩),
  (3, ⟨(some 8), .bin .geq (.tmp 7) (.c (.t (.i .i64 0))), none⟩),
  (4, ⟨(some 4), .mv (.tmp 8), none⟩)]
abbrev f105r1 : Pc := .reg f105o1 [4] []
abbrev f105b : Pc := (.seq f105r0 (.seq f105r1 .ret))
abbrev f105 : Pfn := ⟨2, 9, [.tmp 4], f105b⟩
def f105K : Array (List Nat) := #[[0, 1], [4]]
def f105H : Array (List Nat) := #[[], []]
def f105A : Ann := ⟨fun r => f105K.getD r [], fun r => f105H.getD r [], fun r i => ([] : List (Nat × Nat)).contains (r, i)⟩
theorem f105C : compF Go.Proofs.Tryz.prog f105A 105 = some f105 := by kernel_rfl

/-- switchboard/model.layer$1 -/
abbrev f106o0 : List (Nat × Pop) := [
  (0, ⟨(some 2), .box 67 2 (.tmp 0), none⟩),
  (1, ⟨(some 3), .mv (.c (.t (.b false))), none⟩)]
abbrev f106r0 : Pc := .reg f106o0 [1, 2] []
abbrev f106o1 : List (Nat × Pop) := [
  (0, ⟨(some 4), .load true 2 (.tmp 2), none⟩),
  (1, ⟨(some 5), .load false 1 (.tmp 1), none⟩),
  (2, ⟨(some 6), .call 107 [(.tmp 4), (.tmp 5)], none⟩),
  (3, ⟨(some 7), .un .not (.tmp 6), none⟩),
  (4, ⟨(some 3), .mv (.tmp 7), none⟩)]
abbrev f106r1 : Pc := .reg f106o1 [3] [2]
abbrev f106b : Pc := (.seq f106r0 (.seq f106r1 .ret))
abbrev f106 : Pfn := ⟨2, 8, [.tmp 3], f106b⟩
def f106K : Array (List Nat) := #[[1, 2], [3]]
def f106H : Array (List Nat) := #[[], [2]]
def f106A : Ann := ⟨fun r => f106K.getD r [], fun r => f106H.getD r [], fun r i => ([] : List (Nat × Nat)).contains (r, i)⟩
theorem f106C : compF Go.Proofs.Tryz.prog f106A 106 = some f106 := by kernel_rfl

/-- switchboard/expert.Right -/
abbrev f107o0 : List (Nat × Pop) := [
  (0, ⟨(some 2), .box 67 2 (.tmp 0), none⟩),
  (1, ⟨(some 4), .mv (.c (.t (.b false))), none⟩)]
abbrev f107r0 : Pc := .reg f107o0 [1, 2] []
abbrev f107o1 : List (Nat × Pop) := [
  (0, ⟨(some 6), .fad 0 (.tmp 2), none⟩),
  (1, ⟨(some 7), .load false 1 (.tmp 6), none⟩),
  (2, ⟨(some 8), .lenL (.tmp 7), none⟩),
  (3, ⟨(some 5), .mv (.tmp 8), none⟩)]
abbrev f107r1 : Pc := .reg f107o1 [1, 2, 5] []
abbrev f107o2 : List (Nat × Pop) := [
  (0, ⟨(some 9), .mv (.tmp 1), none⟩),
  (1, ⟨(some 10), .bin .geq (.tmp 9) (.c (.t (.i .i64 1))), none⟩),
  (2, ⟨(some 11), .mv (.tmp 10), none⟩),
  (3, ⟨(some 12), .mv (.tmp 1), (some (11, true))⟩),
  (4, ⟨(some 13), .bin .leq (.tmp 12) (.c (.t (.i .i64 8))), (some (11, true))⟩),
  (5, ⟨(some 14), .pick (.tmp 11) (.tmp 13) (.c (.t (.b false))), none⟩),
  (6, ⟨(some 15), .mv (.tmp 14), none⟩),
  (7, ⟨(some 16), .mv (.tmp 5), (some (15, true))⟩),
  (8, ⟨(some 17), .bin .geq (.tmp 16) (.c (.t (.i .i64 1))), (some (15, true))⟩),
  (9, ⟨(some 18), .pick (.tmp 15) (.tmp 17) (.c (.t (.b false))), none⟩),
  (10, ⟨(some 19), .mv (.tmp 18), none⟩),
  (11, ⟨(some 20), .mv (.tmp 5), (some (19, true))⟩),
  (12, ⟨(some 21), .bin .leq (.tmp 20) (.c (.t (.i .i64 8))), (some (19, true))⟩),
  (13, ⟨(some 22), .pick (.tmp 19) (.tmp 21) (.c (.t (.b false))), none⟩),
  (14, ⟨(some 23), .mv (.tmp 22), none⟩),
  (15, ⟨(some 24), .fad 0 (.tmp 2), (some (23, true))⟩),
  (16, ⟨(some 25), .load false 1 (.tmp 24), (some (23, true))⟩),
  (17, ⟨(some 26), .mv (.tmp 5), (some (23, true))⟩),
  (18, ⟨(some 27), .mv (.tmp 1), (some (23, true))⟩),
  (19, ⟨(some 28), .call 104 [(.tmp 25), (.tmp 26), (.tmp 27)], (some (23, true))⟩),
  (20, ⟨(some 29), .pick (.tmp 23) (.tmp 28) (.c (.t (.b false))), none⟩),
  (21, ⟨(some 30), .mv (.tmp 29), none⟩),
  (22, ⟨(some 31), .fad 1 (.tmp 2), (some (30, true))⟩),
  (23, ⟨(some 32), .load false 1 (.tmp 31), (some (30, true))⟩),
  (24, ⟨(some 33), .mv (.tmp 1), (some (30, true))⟩),
  (25, ⟨(some 34), .mv (.tmp 5), (some (30, true))⟩),
  (26, ⟨(some 35), .call 104 [(.tmp 32), (.tmp 33), (.tmp 34)], (some (30, true))⟩),
  (27, ⟨(some 36), .pick (.tmp 30) (.tmp 35) (.c (.t (.b false))), none⟩),
  (28, ⟨(some 4), .mv (.tmp 36), none⟩)]
abbrev f107r2 : Pc := .reg f107o2 [4] [2]
abbrev f107b : Pc := (.seq f107r0 (.seq f107r1 (.seq f107r2 .ret)))
abbrev f107 : Pfn := ⟨2, 37, [.tmp 4], f107b⟩
def f107K : Array (List Nat) := #[[1, 2], [1, 2, 5], [4]]
def f107H : Array (List Nat) := #[[], [], [2]]
def f107A : Ann := ⟨fun r => f107K.getD r [], fun r => f107H.getD r [], fun r i => ([] : List (Nat × Nat)).contains (r, i)⟩
theorem f107C : compF Go.Proofs.Tryz.prog f107A 107 = some f107 := by kernel_rfl

/-- slices.IndexFunc[[][]int,[]int] -/
abbrev f108o0 : List (Nat × Pop) := [
  (0, ⟨(some 4), .mv (.c (.t (.i .i64 0))), none⟩)]
abbrev f108r0 : Pc := .reg f108o0 [0, 1] []
abbrev f108o1 : List (Nat × Pop) := [
  (0, ⟨(some 6), .mv (.tmp 0), none⟩),
  (1, ⟨(some 7), .lenL (.tmp 6), none⟩),
  (2, ⟨(some 8), .mv (.c (.t (.i .i64 0))), none⟩)]
abbrev f108r1 : Pc := .reg f108o1 [0, 1, 7, 8] []
abbrev f108o2 : List (Nat × Pop) := [
  (0, ⟨(some 9), .bin .lss (.tmp 8) (.tmp 7), none⟩)]
abbrev f108r2 : Pc := .reg f108o2 [0, 1, 7, 8, 9] []
abbrev f108o3 : List (Nat × Pop) := [
  (0, ⟨(some 10), .mv (.tmp 8), none⟩),
  (1, ⟨(some 5), .mv (.tmp 10), none⟩)]
abbrev f108r3 : Pc := .reg f108o3 [0, 1, 5, 7, 8] []
abbrev f108o4 : List (Nat × Pop) := [
  (0, ⟨(some 11), .mv (.tmp 1), none⟩),
  (1, ⟨(some 12), .mv (.tmp 0), none⟩),
  (2, ⟨(some 13), .mv (.tmp 5), none⟩),
  (3, ⟨(some 14), .ixS 1 (.tmp 12) (.tmp 13), none⟩),
  (4, ⟨(some 15), .load false 1 (.tmp 14), none⟩),
  (5, ⟨(some 16), .callv (.tmp 11) [(.tmp 15)], none⟩)]
abbrev f108r4 : Pc := .reg f108o4 [0, 1, 5, 7, 8, 16] []
abbrev f108o5 : List (Nat × Pop) := [
  (0, ⟨(some 17), .mv (.tmp 5), none⟩),
  (1, ⟨(some 4), .mv (.tmp 17), none⟩)]
abbrev f108r5 : Pc := .reg f108o5 [4] []
abbrev f108o6 : List (Nat × Pop) := [
  (0, ⟨(some 18), .bin .add (.tmp 8) (.c (.t (.i .i64 1))), none⟩),
  (1, ⟨(some 8), .mv (.tmp 18), none⟩)]
abbrev f108r6 : Pc := .reg f108o6 [0, 1, 7, 8] []
def f108l0 : Pc := (.seq f108r2 (.seq (.cond (.tmp 9) .skip (.exit 0)) (.seq (.block 1 (.seq f108r3 (.seq f108r4 (.cond (.tmp 16) (.seq f108r5 .ret) .skip)))) f108r6)))
theorem f108l0e (C : Cfg) (s : St) : evL C f108l0 s = evL C (.seq f108r2 (.seq (.cond (.tmp 9) .skip (.exit 0)) (.seq (.block 1 (.seq f108r3 (.seq f108r4 (.cond (.tmp 16) (.seq f108r5 .ret) .skip)))) f108r6))) s := rfl
abbrev f108o7 : List (Nat × Pop) := [
  (0, ⟨(some 4), .mv (.c (.t (.i .i64 (-1)))), none⟩)]
abbrev f108r7 : Pc := .reg f108o7 [4] []
abbrev f108b : Pc := (.seq f108r0 (.seq (.seq f108r1 (.block 0 (.loop f108l0))) (.seq f108r7 .ret)))
abbrev f108 : Pfn := ⟨2, 19, [.tmp 4], f108b⟩
def f108K : Array (List Nat) := #[[0, 1], [0, 1, 7, 8], [0, 1, 7, 8, 9], [0, 1, 5, 7, 8], [0, 1, 5, 7, 8, 16], [4], [0, 1, 7, 8], [4]]
def f108H : Array (List Nat) := #[[], [], [], [], [], [], [], []]
def f108A : Ann := ⟨fun r => f108K.getD r [], fun r => f108H.getD r [], fun r i => ([] : List (Nat × Nat)).contains (r, i)⟩
theorem f108C : compF Go.Proofs.Tryz.prog f108A 108 = some f108 := by kernel_rfl

/-- switchboard/gate.Choose -/
abbrev f109o0 : List (Nat × Pop) := [
  (0, ⟨(some 4), .alloc 155 [(.t (.i .i64 0)), (.t (.i .i64 0)), (.t (.i .i64 0)), (.t (.i .i64 0))], none⟩),
  (1, ⟨(some 5), .mv (.c (.t (.b false))), none⟩)]
abbrev f109r0 : Pc := .reg f109o0 [0, 1, 4] []
abbrev f109o1 : List (Nat × Pop) := [
  (0, ⟨(some 10), .mv (.tmp 0), none⟩),
  (1, ⟨(some 11), .mv (.tmp 1), none⟩),
  (2, ⟨(some 12), .call 120 [(.tmp 10), (.tmp 11)], none⟩),
  (3, ⟨(some 9), .mv (.tmp 12), none⟩),
  (4, ⟨(some 13), .ext 0 (.tmp 9), none⟩),
  (5, ⟨(some 14), .ext 1 (.tmp 9), none⟩),
  (6, ⟨(some 6), .mv (.tmp 13), none⟩),
  (7, ⟨(some 7), .mv (.tmp 14), none⟩)]
abbrev f109r1 : Pc := .reg f109o1 [0, 4, 6, 7] []
abbrev f109o2 : List (Nat × Pop) := [
  (0, ⟨(some 15), .mv (.tmp 7), none⟩),
  (1, ⟨(some 16), .un .not (.tmp 15), none⟩),
  (2, ⟨(some 17), .mv (.tmp 16), none⟩),
  (3, ⟨(some 18), .mv (.tmp 0), (some (17, false))⟩),
  (4, ⟨(some 19), .lenL (.tmp 18), (some (17, false))⟩),
  (5, ⟨(some 20), .bin .eql (.tmp 19) (.c (.t (.i .i64 0))), (some (17, false))⟩),
  (6, ⟨(some 21), .pick (.tmp 17) (.c (.t (.b true))) (.tmp 20), none⟩)]
abbrev f109r2 : Pc := .reg f109o2 [4, 6, 21] []
abbrev f109o3 : List (Nat × Pop) := [
  (0, ⟨(some 22), .build [(.t (.i .i64 0)), (.t (.i .i64 0)), (.t (.i .i64 0)), (.t (.i .i64 0))] [], none⟩),
  (1, ⟨none, .store 4 (.tmp 4) (.tmp 22), none⟩),
  (2, ⟨(some 5), .mv (.c (.t (.b false))), none⟩)]
abbrev f109r3 : Pc := .reg f109o3 [4, 5] []
abbrev f109o4 : List (Nat × Pop) := [
  (0, ⟨(some 23), .build [(.t (.i .i64 0)), (.t (.i .i64 0)), (.t (.i .i64 0)), (.t (.i .i64 0))] [(2, 1, (.c (.t (.i .i64 65536))))], none⟩),
  (1, ⟨(some 8), .alloc 155 [(.t (.i .i64 0)), (.t (.i .i64 0)), (.t (.i .i64 0)), (.t (.i .i64 0))], none⟩),
  (2, ⟨none, .store 4 (.tmp 8) (.tmp 23), none⟩)]
abbrev f109r4 : Pc := .reg f109o4 [4, 6, 8] []
abbrev f109o5 : List (Nat × Pop) := [
  (0, ⟨(some 25), .mv (.tmp 6), none⟩),
  (1, ⟨(some 26), .call 139 [(.tmp 25)], none⟩),
  (2, ⟨(some 24), .mv (.tmp 26), none⟩),
  (3, ⟨(some 27), .ext 0 (.tmp 24), none⟩),
  (4, ⟨(some 28), .ext 1 (.tmp 24), none⟩),
  (5, ⟨(some 29), .fad 0 (.tmp 8), none⟩),
  (6, ⟨none, .store 1 (.tmp 29) (.tmp 27), none⟩),
  (7, ⟨(some 30), .fad 1 (.tmp 8), none⟩),
  (8, ⟨none, .store 1 (.tmp 30) (.tmp 28), none⟩)]
abbrev f109r5 : Pc := .reg f109o5 [4, 6, 8] []
abbrev f109o6 : List (Nat × Pop) := [
  (0, ⟨(some 31), .fad 1 (.tmp 8), none⟩),
  (1, ⟨(some 32), .load false 1 (.tmp 31), none⟩),
  (2, ⟨(some 33), .bin .geq (.tmp 32) (.c (.t (.i .i64 0))), none⟩)]
abbrev f109r6 : Pc := .reg f109o6 [4, 6, 8, 33] []
abbrev f109o7 : List (Nat × Pop) := [
  (0, ⟨(some 35), .mv (.tmp 6), none⟩),
  (1, ⟨(some 36), .fad 0 (.tmp 8), none⟩),
  (2, ⟨(some 37), .load false 1 (.tmp 36), none⟩),
  (3, ⟨(some 38), .ixS 1 (.tmp 35) (.tmp 37), none⟩),
  (4, ⟨(some 39), .load false 1 (.tmp 38), none⟩),
  (5, ⟨(some 40), .mv (.tmp 6), none⟩),
  (6, ⟨(some 41), .fad 1 (.tmp 8), none⟩),
  (7, ⟨(some 42), .load false 1 (.tmp 41), none⟩),
  (8, ⟨(some 43), .ixS 1 (.tmp 40) (.tmp 42), none⟩),
  (9, ⟨(some 44), .load false 1 (.tmp 43), none⟩),
  (10, ⟨(some 45), .callq 140 [(.tmp 39), (.tmp 44)], none⟩),
  (11, ⟨(some 34), .mv (.tmp 45), none⟩),
  (12, ⟨(some 46), .ext 0 (.tmp 34), none⟩),
  (13, ⟨(some 47), .ext 1 (.tmp 34), none⟩),
  (14, ⟨(some 48), .fad 2 (.tmp 8), none⟩),
  (15, ⟨none, .store 1 (.tmp 48) (.tmp 46), none⟩),
  (16, ⟨(some 49), .fad 3 (.tmp 8), none⟩),
  (17, ⟨none, .store 1 (.tmp 49) (.tmp 47), none⟩)]
abbrev f109r7 : Pc := .reg f109o7 [4, 8] []
abbrev f109o8 : List (Nat × Pop) := [
  (0, ⟨(some 50), .load true 4 (.tmp 8), none⟩),
  (1, ⟨none, .store 4 (.tmp 4) (.tmp 50), none⟩),
  (2, ⟨(some 5), .mv (.c (.t (.b true))), none⟩)]
abbrev f109r8 : Pc := .reg f109o8 [4, 5] [8]
abbrev f109b : Pc := (.seq f109r0 (.seq f109r1 (.seq (.seq f109r2 (.cond (.tmp 21) (.seq f109r3 .ret) .skip)) (.seq f109r4 (.seq f109r5 (.seq (.seq f109r6 (.cond (.tmp 33) f109r7 .skip)) (.seq f109r8 .ret)))))))
abbrev f109 : Pfn := ⟨2, 51, [.cell 4 true 4, .tmp 5], f109b⟩
def f109K : Array (List Nat) := #[[0, 1, 4], [0, 4, 6, 7], [4, 6, 21], [4, 5], [4, 6, 8], [4, 6, 8], [4, 6, 8, 33], [4, 8], [4, 5]]
def f109H : Array (List Nat) := #[[], [], [], [], [], [], [], [], [8]]
def f109A : Ann := ⟨fun r => f109K.getD r [], fun r => f109H.getD r [], fun r i => ([] : List (Nat × Nat)).contains (r, i)⟩
theorem f109C : compF Go.Proofs.Tryz.prog f109A 109 = some f109 := by kernel_rfl

/-- switchboard/slots.Assign -/
abbrev f110o0 : List (Nat × Pop) := [
  (0, ⟨(some 6), .nilv 91 2, none⟩)]
abbrev f110r0 : Pc := .reg f110o0 [0, 1, 2] [6, 8, 54]
abbrev f110o1 : List (Nat × Pop) := [
  (0, ⟨(some 14), .mkm, none⟩),
  (1, ⟨(some 7), .mv (.tmp 14), none⟩)]
abbrev f110r1 : Pc := .reg f110o1 [0, 1, 2, 7] []
abbrev f110o2 : List (Nat × Pop) := [
  (0, ⟨(some 8), .nilv 91 2, none⟩)]
abbrev f110r2 : Pc := .reg f110o2 [0, 1, 2, 7, 8] []
abbrev f110o3 : List (Nat × Pop) := [
  (0, ⟨(some 15), .mv (.tmp 0), none⟩),
  (1, ⟨(some 16), .lenL (.tmp 15), none⟩),
  (2, ⟨(some 17), .mv (.c (.t (.i .i64 0))), none⟩)]
abbrev f110r3 : Pc := .reg f110o3 [1, 2, 7, 8, 15, 16, 17] []
abbrev f110o4 : List (Nat × Pop) := [
  (0, ⟨(some 18), .bin .lss (.tmp 17) (.tmp 16), none⟩)]
abbrev f110r4 : Pc := .reg f110o4 [1, 2, 7, 8, 15, 16, 17, 18] []
abbrev f110o5 : List (Nat × Pop) := [
  (0, ⟨(some 19), .ixS 2 (.tmp 15) (.tmp 17), none⟩),
  (1, ⟨(some 20), .load true 2 (.tmp 19), none⟩),
  (2, ⟨(some 10), .alloc 91 [(.t (.i .i64 0)), (.t (.i .i64 0))], none⟩),
  (3, ⟨none, .store 2 (.tmp 10) (.tmp 20), none⟩)]
abbrev f110r5 : Pc := .reg f110o5 [1, 2, 7, 8, 10, 15, 16, 17] []
abbrev f110o6 : List (Nat × Pop) := [
  (0, ⟨(some 21), .build [(.t (.i .i64 0)), (.t (.i .i64 0))] [(0, 1, (.c (.t (.i .i64 (-1))))), (1, 1, (.c (.t (.i .i64 (-1)))))], none⟩),
  (1, ⟨(some 11), .alloc 91 [(.t (.i .i64 0)), (.t (.i .i64 0))], none⟩),
  (2, ⟨none, .store 2 (.tmp 11) (.tmp 21), none⟩)]
abbrev f110r6 : Pc := .reg f110o6 [1, 2, 7, 8, 10, 11, 15, 16, 17] []
abbrev f110o7 : List (Nat × Pop) := [
  (0, ⟨(some 22), .load true 2 (.tmp 10), none⟩),
  (1, ⟨(some 23), .mv (.c (.t (.i .i64 0))), none⟩)]
abbrev f110r7 : Pc := .reg f110o7 [1, 2, 7, 8, 11, 15, 16, 17, 22, 23] [10]
abbrev f110o8 : List (Nat × Pop) := [
  (0, ⟨(some 24), .bin .lss (.tmp 23) (.c (.t (.i .i64 2))), none⟩)]
abbrev f110r8 : Pc := .reg f110o8 [1, 2, 7, 8, 11, 15, 16, 17, 22, 23, 24] []
abbrev f110o9 : List (Nat × Pop) := [
  (0, ⟨(some 25), .mv (.tmp 23), none⟩),
  (1, ⟨(some 26), .ixV false 2 1 (.tmp 22) (.tmp 23), none⟩),
  (2, ⟨(some 12), .mv (.tmp 25), none⟩),
  (3, ⟨(some 13), .mv (.tmp 26), none⟩)]
abbrev f110r9 : Pc := .reg f110o9 [1, 2, 7, 8, 11, 12, 13, 15, 16, 17, 22, 23] []
abbrev f110o10 : List (Nat × Pop) := [
  (0, ⟨(some 27), .mv (.tmp 13), none⟩),
  (1, ⟨(some 28), .bin .lss (.tmp 27) (.c (.t (.i .i64 0))), none⟩),
  (2, ⟨(some 29), .mv (.tmp 28), none⟩),
  (3, ⟨(some 30), .mv (.tmp 13), (some (29, false))⟩),
  (4, ⟨(some 31), .mv (.tmp 1), (some (29, false))⟩),
  (5, ⟨(some 32), .bin .geq (.tmp 30) (.tmp 31), (some (29, false))⟩),
  (6, ⟨(some 33), .pick (.tmp 29) (.c (.t (.b true))) (.tmp 32), none⟩),
  (7, ⟨(some 34), .mv (.tmp 33), none⟩),
  (8, ⟨(some 35), .mv (.tmp 7), (some (34, false))⟩),
  (9, ⟨(some 36), .mv (.tmp 13), (some (34, false))⟩),
  (10, ⟨(some 37), .mlk (.t (.i .i64 0)) false (.tmp 35) (.tmp 36), (some (34, false))⟩),
  (11, ⟨(some 38), .mv (.tmp 2), (some (34, false))⟩),
  (12, ⟨(some 39), .bin .geq (.tmp 37) (.tmp 38), (some (34, false))⟩),
  (13, ⟨(some 40), .pick (.tmp 34) (.c (.t (.b true))) (.tmp 39), none⟩)]
abbrev f110r10 : Pc := .reg f110o10 [1, 2, 7, 8, 11, 12, 13, 15, 16, 17, 22, 23, 40] []
abbrev f110o11 : List (Nat × Pop) := [
  (0, ⟨(some 41), .mv (.tmp 12), none⟩),
  (1, ⟨(some 42), .mv (.tmp 7), none⟩),
  (2, ⟨(some 43), .mv (.tmp 13), none⟩),
  (3, ⟨(some 44), .mlk (.t (.i .i64 0)) false (.tmp 42) (.tmp 43), none⟩),
  (4, ⟨(some 45), .ixA 2 1 (.tmp 11) (.tmp 41), none⟩),
  (5, ⟨none, .store 1 (.tmp 45) (.tmp 44), none⟩)]
abbrev f110r11 : Pc := .reg f110o11 [1, 2, 7, 8, 11, 13, 15, 16, 17, 22, 23] []
abbrev f110o12 : List (Nat × Pop) := [
  (0, ⟨(some 46), .mv (.tmp 7), none⟩),
  (1, ⟨(some 47), .mv (.tmp 13), none⟩),
  (2, ⟨(some 48), .mlk (.t (.i .i64 0)) false (.tmp 46) (.tmp 47), none⟩),
  (3, ⟨(some 49), .bin .add (.tmp 48) (.c (.t (.i .i64 1))), none⟩),
  (4, ⟨none, .mup (.tmp 46) (.tmp 47) (.tmp 49), none⟩)]
abbrev f110r12 : Pc := .reg f110o12 [1, 2, 7, 8, 11, 15, 16, 17, 22, 23] []
abbrev f110o13 : List (Nat × Pop) := [
  (0, ⟨(some 50), .bin .add (.tmp 23) (.c (.t (.i .i64 1))), none⟩),
  (1, ⟨(some 23), .mv (.tmp 50), none⟩)]
abbrev f110r13 : Pc := .reg f110o13 [1, 2, 7, 8, 11, 15, 16, 17, 22, 23] []
def f110l0 : Pc := (.seq f110r8 (.seq (.cond (.tmp 24) .skip (.exit 2)) (.seq (.block 3 (.seq f110r9 (.seq (.seq f110r10 (.cond (.tmp 40) (.exit 3) .skip)) (.seq f110r11 f110r12)))) f110r13)))
theorem f110l0e (C : Cfg) (s : St) : evL C f110l0 s = evL C (.seq f110r8 (.seq (.cond (.tmp 24) .skip (.exit 2)) (.seq (.block 3 (.seq f110r9 (.seq (.seq f110r10 (.cond (.tmp 40) (.exit 3) .skip)) (.seq f110r11 f110r12)))) f110r13))) s := rfl
abbrev f110o14 : List (Nat × Pop) := [
  (0, ⟨(some 51), .mv (.tmp 8), none⟩),
  (1, ⟨(some 52), .load true 2 (.tmp 11), none⟩),
  (2, ⟨(some 53), .bslT 2 [(.tmp 52)], none⟩),
  (3, ⟨(some 54), .app 91 2 16 (.tmp 51) (.tmp 53), none⟩),
  (4, ⟨(some 8), .mv (.tmp 54), none⟩)]
abbrev f110r14 : Pc := .reg f110o14 [1, 2, 7, 8, 15, 16, 17] [11]
abbrev f110o15 : List (Nat × Pop) := [
  (0, ⟨(some 55), .bin .add (.tmp 17) (.c (.t (.i .i64 1))), none⟩),
  (1, ⟨(some 17), .mv (.tmp 55), none⟩)]
abbrev f110r15 : Pc := .reg f110o15 [1, 2, 7, 8, 15, 16, 17] []
def f110l1 : Pc := (.seq f110r4 (.seq (.cond (.tmp 18) .skip (.exit 0)) (.seq (.block 1 (.seq f110r5 (.seq f110r6 (.seq (.seq f110r7 (.block 2 (.loop f110l0))) f110r14)))) f110r15)))
theorem f110l1e (C : Cfg) (s : St) : evL C f110l1 s = evL C (.seq f110r4 (.seq (.cond (.tmp 18) .skip (.exit 0)) (.seq (.block 1 (.seq f110r5 (.seq f110r6 (.seq (.seq f110r7 (.block 2 (.loop f110l0))) f110r14)))) f110r15))) s := rfl
abbrev f110o16 : List (Nat × Pop) := [
  (0, ⟨(some 56), .mv (.tmp 8), none⟩),
  (1, ⟨(some 6), .mv (.tmp 56), none⟩)]
abbrev f110r16 : Pc := .reg f110o16 [6] [14]
abbrev f110b : Pc := (.seq f110r0 (.seq f110r1 (.seq f110r2 (.seq (.seq f110r3 (.block 0 (.loop f110l1))) (.seq f110r16 .ret)))))
abbrev f110 : Pfn := ⟨3, 57, [.tmp 6], f110b⟩
def f110K : Array (List Nat) := #[[0, 1, 2], [0, 1, 2, 7], [0, 1, 2, 7, 8], [1, 2, 7, 8, 15, 16, 17], [1, 2, 7, 8, 15, 16, 17, 18], [1, 2, 7, 8, 10, 15, 16, 17], [1, 2, 7, 8, 10, 11, 15, 16, 17], [1, 2, 7, 8, 11, 15, 16, 17, 22, 23], [1, 2, 7, 8, 11, 15, 16, 17, 22, 23, 24], [1, 2, 7, 8, 11, 12, 13, 15, 16, 17, 22, 23], [1, 2, 7, 8, 11, 12, 13, 15, 16, 17, 22, 23, 40], [1, 2, 7, 8, 11, 13, 15, 16, 17, 22, 23], [1, 2, 7, 8, 11, 15, 16, 17, 22, 23], [1, 2, 7, 8, 11, 15, 16, 17, 22, 23], [1, 2, 7, 8, 15, 16, 17], [1, 2, 7, 8, 15, 16, 17], [6]]
def f110H : Array (List Nat) := #[[6, 8, 54], [], [], [], [], [], [], [10], [], [], [], [], [], [], [11], [], [14]]
def f110A : Ann := ⟨fun r => f110K.getD r [], fun r => f110H.getD r [], fun r i => ([] : List (Nat × Nat)).contains (r, i)⟩
theorem f110C : compF Go.Proofs.Tryz.prog f110A 110 = some f110 := by kernel_rfl

/-- slices.Index[[]bool,bool] -/
abbrev f111o0 : List (Nat × Pop) := [
  (0, ⟨(some 4), .mv (.c (.t (.i .i64 0))), none⟩)]
abbrev f111r0 : Pc := .reg f111o0 [0, 1] []
abbrev f111o1 : List (Nat × Pop) := [
  (0, ⟨(some 6), .mv (.tmp 0), none⟩),
  (1, ⟨(some 7), .lenL (.tmp 6), none⟩),
  (2, ⟨(some 8), .mv (.c (.t (.i .i64 0))), none⟩)]
abbrev f111r1 : Pc := .reg f111o1 [0, 1, 7, 8] []
abbrev f111o2 : List (Nat × Pop) := [
  (0, ⟨(some 9), .bin .lss (.tmp 8) (.tmp 7), none⟩)]
abbrev f111r2 : Pc := .reg f111o2 [0, 1, 7, 8, 9] []
abbrev f111o3 : List (Nat × Pop) := [
  (0, ⟨(some 10), .mv (.tmp 8), none⟩),
  (1, ⟨(some 5), .mv (.tmp 10), none⟩)]
abbrev f111r3 : Pc := .reg f111o3 [0, 1, 5, 7, 8] []
abbrev f111o4 : List (Nat × Pop) := [
  (0, ⟨(some 11), .mv (.tmp 1), none⟩),
  (1, ⟨(some 12), .mv (.tmp 0), none⟩),
  (2, ⟨(some 13), .mv (.tmp 5), none⟩),
  (3, ⟨(some 14), .ixS 1 (.tmp 12) (.tmp 13), none⟩),
  (4, ⟨(some 15), .load false 1 (.tmp 14), none⟩),
  (5, ⟨(some 16), .beq false (.tmp 11) (.tmp 15), none⟩)]
abbrev f111r4 : Pc := .reg f111o4 [0, 1, 5, 7, 8, 16] []
abbrev f111o5 : List (Nat × Pop) := [
  (0, ⟨(some 17), .mv (.tmp 5), none⟩),
  (1, ⟨(some 4), .mv (.tmp 17), none⟩)]
abbrev f111r5 : Pc := .reg f111o5 [4] []
abbrev f111o6 : List (Nat × Pop) := [
  (0, ⟨(some 18), .bin .add (.tmp 8) (.c (.t (.i .i64 1))), none⟩),
  (1, ⟨(some 8), .mv (.tmp 18), none⟩)]
abbrev f111r6 : Pc := .reg f111o6 [0, 1, 7, 8] []
def f111l0 : Pc := (.seq f111r2 (.seq (.cond (.tmp 9) .skip (.exit 0)) (.seq (.block 1 (.seq f111r3 (.seq f111r4 (.cond (.tmp 16) (.seq f111r5 .ret) .skip)))) f111r6)))
theorem f111l0e (C : Cfg) (s : St) : evL C f111l0 s = evL C (.seq f111r2 (.seq (.cond (.tmp 9) .skip (.exit 0)) (.seq (.block 1 (.seq f111r3 (.seq f111r4 (.cond (.tmp 16) (.seq f111r5 .ret) .skip)))) f111r6))) s := rfl
abbrev f111o7 : List (Nat × Pop) := [
  (0, ⟨(some 4), .mv (.c (.t (.i .i64 (-1)))), none⟩)]
abbrev f111r7 : Pc := .reg f111o7 [4] []
abbrev f111b : Pc := (.seq f111r0 (.seq (.seq f111r1 (.block 0 (.loop f111l0))) (.seq f111r7 .ret)))
abbrev f111 : Pfn := ⟨2, 19, [.tmp 4], f111b⟩
def f111K : Array (List Nat) := #[[0, 1], [0, 1, 7, 8], [0, 1, 7, 8, 9], [0, 1, 5, 7, 8], [0, 1, 5, 7, 8, 16], [4], [0, 1, 7, 8], [4]]
def f111H : Array (List Nat) := #[[], [], [], [], [], [], [], []]
def f111A : Ann := ⟨fun r => f111K.getD r [], fun r => f111H.getD r [], fun r i => ([] : List (Nat × Nat)).contains (r, i)⟩
theorem f111C : compF Go.Proofs.Tryz.prog f111A 111 = some f111 := by kernel_rfl

/-- switchboard/vec.Add -/
abbrev f112o0 : List (Nat × Pop) := [
  (0, ⟨(some 3), .box 42 1 (.tmp 1), none⟩),
  (1, ⟨(some 4), .nilv 3 1, none⟩),
  (2, ⟨(some 5), .mv (.c (.t (.b false))), none⟩)]
abbrev f112r0 : Pc := .reg f112o0 [0, 3] [4]
abbrev f112o1 : List (Nat × Pop) := [
  (0, ⟨(some 6), .mv (.tmp 0), none⟩),
  (1, ⟨(some 7), .lenL (.tmp 6), none⟩),
  (2, ⟨(some 8), .load false 1 (.tmp 3), none⟩),
  (3, ⟨(some 9), .lenL (.tmp 8), none⟩),
  (4, ⟨(some 10), .bin .neq (.tmp 7) (.tmp 9), none⟩)]
abbrev f112r1 : Pc := .reg f112o1 [0, 3, 10] []
abbrev f112o2 : List (Nat × Pop) := [
  (0, ⟨(some 4), .nilv 3 1, none⟩),
  (1, ⟨(some 5), .mv (.c (.t (.b false))), none⟩)]
abbrev f112r2 : Pc := .reg f112o2 [4, 5] []
abbrev f112o3 : List (Nat × Pop) := [
  (0, ⟨(some 11), .mv (.tmp 0), none⟩),
  (1, ⟨(some 12), .mkfn 142 [(.tmp 3)], none⟩),
  (2, ⟨(some 13), .call 141 [(.tmp 11), (.tmp 12)], none⟩),
  (3, ⟨(some 4), .mv (.tmp 13), none⟩),
  (4, ⟨(some 5), .mv (.c (.t (.b true))), none⟩)]
abbrev f112r3 : Pc := .reg f112o3 [4, 5] []
abbrev f112b : Pc := (.seq f112r0 (.seq (.seq f112r1 (.cond (.tmp 10) (.seq f112r2 .ret) .skip)) (.seq f112r3 .ret)))
abbrev f112 : Pfn := ⟨2, 14, [.tmp 4, .tmp 5], f112b⟩
def f112K : Array (List Nat) := #[[0, 3], [0, 3, 10], [4, 5], [4, 5]]
def f112H : Array (List Nat) := #[[4], [], [], []]
def f112A : Ann := ⟨fun r => f112K.getD r [], fun r => f112H.getD r [], fun r i => ([] : List (Nat × Nat)).contains (r, i)⟩
theorem f112C : compF Go.Proofs.Tryz.prog f112A 112 = some f112 := by kernel_rfl

/-- switchboard/vec.Scale -/
abbrev f113o0 : List (Nat × Pop) := [
  (0, ⟨(some 3), .box 3 1 (.tmp 1), none⟩),
  (1, ⟨(some 4), .nilv 3 1, none⟩)]
abbrev f113r0 : Pc := .reg f113o0 [0, 3] [4]
abbrev f113o1 : List (Nat × Pop) := [
  (0, ⟨(some 5), .mv (.tmp 0), none⟩),
  (1, ⟨(some 6), .mkfn 144 [(.tmp 3)], none⟩),
  (2, ⟨(some 7), .call 141 [(.tmp 5), (.tmp 6)], none⟩),
  (3, ⟨(some 4), .mv (.tmp 7), none⟩)]
abbrev f113r1 : Pc := .reg f113o1 [4] []
abbrev f113b : Pc := (.seq f113r0 (.seq f113r1 .ret))
abbrev f113 : Pfn := ⟨2, 8, [.tmp 4], f113b⟩
def f113K : Array (List Nat) := #[[0, 3], [4]]
def f113H : Array (List Nat) := #[[4], []]
def f113A : Ann := ⟨fun r => f113K.getD r [], fun r => f113H.getD r [], fun r i => ([] : List (Nat × Nat)).contains (r, i)⟩
theorem f113C : compF Go.Proofs.Tryz.prog f113A 113 = some f113 := by kernel_rfl

/-- switchboard/switchboardref02.Dot -/
abbrev f114o0 : List (Nat × Pop) := [
  (0, ⟨(some 4), .mv (.c (.t (.i .i64 0))), none⟩)]
abbrev f114r0 : Pc := .reg f114o0 [0, 1] []
abbrev f114o1 : List (Nat × Pop) := [
  (0, ⟨(some 5), .mv (.c (.t (.i .i64 0))), none⟩)]
abbrev f114r1 : Pc := .reg f114o1 [0, 1, 5] []
abbrev f114o2 : List (Nat × Pop) := [
  (0, ⟨(some 6), .mv (.c (.t (.i .i64 0))), none⟩)]
abbrev f114r2 : Pc := .reg f114o2 [0, 1, 5, 6] []
abbrev f114o3 : List (Nat × Pop) := [
  (0, ⟨(some 7), .mv (.tmp 6), none⟩),
  (1, ⟨(some 8), .mv (.tmp 0), none⟩),
  (2, ⟨(some 9), .lenL (.tmp 8), none⟩),
  (3, ⟨(some 10), .bin .lss (.tmp 7) (.tmp 9), none⟩)]
abbrev f114r3 : Pc := .reg f114o3 [0, 1, 5, 6, 10] []
abbrev f114o5 : List (Nat × Pop) := [
  (0, ⟨(some 13), .mv (.tmp 5), none⟩),
  (1, ⟨(some 14), .mv (.tmp 0), none⟩),
  (2, ⟨(some 15), .mv (.tmp 6), none⟩),
  (3, ⟨(some 16), .ixS 1 (.tmp 14) (.tmp 15), none⟩),
  (4, ⟨(some 17), .load false 1 (.tmp 16), none⟩),
  (5, ⟨(some 18), .mv (.tmp 1), none⟩),
  (6, ⟨(some 19), .mv (.tmp 6), none⟩),
  (7, ⟨(some 20), .ixS 1 (.tmp 18) (.tmp 19), none⟩),
  (8, ⟨(some 21), .load false 1 (.tmp 20), none⟩),
  (9, ⟨(some 22), .callq 84 [(.tmp 17), (.tmp 21)], none⟩),
  (10, ⟨(some 23), .bin .add (.tmp 13) (.tmp 22), none⟩),
  (11, ⟨(some 24), .callq 83 [(.tmp 23)], none⟩),
  (12, ⟨(some 5), .mv (.tmp 24), none⟩)]
abbrev f114r5 : Pc := .reg f114o5 [0, 1, 5, 6] []
abbrev f114o4 : List (Nat × Pop) := [
  (0, ⟨(some 11), .mv (.tmp 6), none⟩),
  (1, ⟨(some 12), .bin .add (.tmp 11) (.c (.t (.i .i64 1))), none⟩),
  (2, ⟨(some 6), .mv (.tmp 12), none⟩)]
abbrev f114r4 : Pc := .reg f114o4 [0, 1, 5, 6] []
def f114l0 : Pc := (.seq (.seq f114r3 (.cond (.tmp 10) .skip (.exit 0))) (.seq (.block 1 f114r5) f114r4))
theorem f114l0e (C : Cfg) (s : St) : evL C f114l0 s = evL C (.seq (.seq f114r3 (.cond (.tmp 10) .skip (.exit 0))) (.seq (.block 1 f114r5) f114r4)) s := rfl
abbrev f114o6 : List (Nat × Pop) := [
  (0, ⟨(some 25), .mv (.tmp 5), none⟩),
  (1, ⟨(some 4), .mv (.tmp 25), none⟩)]
abbrev f114r6 : Pc := .reg f114o6 [4] []
abbrev f114b : Pc := (.seq f114r0 (.seq f114r1 (.seq (.seq f114r2 (.block 0 (.loop f114l0))) (.seq f114r6 .ret))))
abbrev f114 : Pfn := ⟨2, 26, [.tmp 4], f114b⟩
def f114K : Array (List Nat) := #[[0, 1], [0, 1, 5], [0, 1, 5, 6], [0, 1, 5, 6, 10], [0, 1, 5, 6], [0, 1, 5, 6], [4]]
def f114H : Array (List Nat) := #[[], [], [], [], [], [], []]
def f114A : Ann := ⟨fun r => f114K.getD r [], fun r => f114H.getD r [], fun r i => ([] : List (Nat × Nat)).contains (r, i)⟩
theorem f114C : compF Go.Proofs.Tryz.prog f114A 114 = some f114 := by kernel_rfl

/-- switchboard/switchboardref04.Rank -/
abbrev f115o0 : List (Nat × Pop) := [
  (0, ⟨(some 4), .mv (.c (.t (.i .i64 0))), none⟩)]
abbrev f115r0 : Pc := .reg f115o0 [0, 1] []
abbrev f115o1 : List (Nat × Pop) := [
  (0, ⟨(some 5), .mv (.c (.t (.i .i64 0))), none⟩)]
abbrev f115r1 : Pc := .reg f115o1 [0, 1, 5] []
abbrev f115o2 : List (Nat × Pop) := [
  (0, ⟨(some 6), .mv (.c (.t (.i .i64 0))), none⟩)]
abbrev f115r2 : Pc := .reg f115o2 [0, 1, 5, 6] []
abbrev f115o3 : List (Nat × Pop) := [
  (0, ⟨(some 7), .mv (.tmp 6), none⟩),
  (1, ⟨(some 8), .mv (.tmp 0), none⟩),
  (2, ⟨(some 9), .lenL (.tmp 8), none⟩),
  (3, ⟨(some 10), .bin .lss (.tmp 7) (.tmp 9), none⟩)]
abbrev f115r3 : Pc := .reg f115o3 [0, 1, 5, 6, 10] []
abbrev f115o5 : List (Nat × Pop) := [
  (0, ⟨(some 13), .mv (.tmp 0), none⟩),
  (1, ⟨(some 14), .mv (.tmp 6), none⟩),
  (2, ⟨(some 15), .ixS 1 (.tmp 13) (.tmp 14), none⟩),
  (3, ⟨(some 16), .load false 1 (.tmp 15), none⟩),
  (4, ⟨(some 17), .mv (.tmp 0), none⟩),
  (5, ⟨(some 18), .mv (.tmp 1), none⟩),
  (6, ⟨(some 19), .ixS 1 (.tmp 17) (.tmp 18), none⟩),
  (7, ⟨(some 20), .load false 1 (.tmp 19), none⟩),
  (8, ⟨(some 21), .bin .gtr (.tmp 16) (.tmp 20), none⟩),
  (9, ⟨(some 22), .mv (.tmp 21), none⟩),
  (10, ⟨(some 23), .mv (.tmp 0), (some (22, false))⟩),
  (11, ⟨(some 24), .mv (.tmp 6), (some (22, false))⟩),
  (12, ⟨(some 25), .ixS 1 (.tmp 23) (.tmp 24), (some (22, false))⟩),
  (13, ⟨(some 26), .load false 1 (.tmp 25), (some (22, false))⟩),
  (14, ⟨(some 27), .mv (.tmp 0), (some (22, false))⟩),
  (15, ⟨(some 28), .mv (.tmp 1), (some (22, false))⟩),
  (16, ⟨(some 29), .ixS 1 (.tmp 27) (.tmp 28), (some (22, false))⟩),
  (17, ⟨(some 30), .load false 1 (.tmp 29), (some (22, false))⟩),
  (18, ⟨(some 31), .bin .eql (.tmp 26) (.tmp 30), (some (22, false))⟩),
  (19, ⟨(some 32), .mv (.tmp 31), (some (22, false))⟩),
  (20, ⟨(some 33), .mv (.tmp 6), (some (32, true))⟩),
  (21, ⟨(some 34), .mv (.tmp 1), (some (32, true))⟩),
  (22, ⟨(some 35), .bin .lss (.tmp 33) (.tmp 34), (some (32, true))⟩),
  (23, ⟨(some 36), .pick (.tmp 32) (.tmp 35) (.c (.t (.b false))), (some (22, false))⟩),
  (24, ⟨(some 37), .pick (.tmp 22) (.c (.t (.b true))) (.tmp 36), none⟩)]
abbrev f115r5 : Pc := .reg f115o5 [0, 1, 5, 6, 37] []
abbrev f115o6 : List (Nat × Pop) := [
  (0, ⟨(some 38), .mv (.tmp 5), none⟩),
  (1, ⟨(some 39), .bin .add (.tmp 38) (.c (.t (.i .i64 1))), none⟩),
  (2, ⟨(some 5), .mv (.tmp 39), none⟩)]
abbrev f115r6 : Pc := .reg f115o6 [0, 1, 5, 6] []
abbrev f115o4 : List (Nat × Pop) := [
  (0, ⟨(some 11), .mv (.tmp 6), none⟩),
  (1, ⟨(some 12), .bin .add (.tmp 11) (.c (.t (.i .i64 1))), none⟩),
  (2, ⟨(some 6), .mv (.tmp 12), none⟩)]
abbrev f115r4 : Pc := .reg f115o4 [0, 1, 5, 6] []
def f115l0 : Pc := (.seq (.seq f115r3 (.cond (.tmp 10) .skip (.exit 0))) (.seq (.block 1 (.seq f115r5 (.cond (.tmp 37) f115r6 .skip))) f115r4))
theorem f115l0e (C : Cfg) (s : St) : evL C f115l0 s = evL C (.seq (.seq f115r3 (.cond (.tmp 10) .skip (.exit 0))) (.seq (.block 1 (.seq f115r5 (.cond (.tmp 37) f115r6 .skip))) f115r4)) s := rfl
abbrev f115o7 : List (Nat × Pop) := [
  (0, ⟨(some 40), .mv (.tmp 5), none⟩),
  (1, ⟨(some 4), .mv (.tmp 40), none⟩)]
abbrev f115r7 : Pc := .reg f115o7 [4] []
abbrev f115b : Pc := (.seq f115r0 (.seq f115r1 (.seq (.seq f115r2 (.block 0 (.loop f115l0))) (.seq f115r7 .ret))))
abbrev f115 : Pfn := ⟨2, 41, [.tmp 4], f115b⟩
def f115K : Array (List Nat) := #[[0, 1], [0, 1, 5], [0, 1, 5, 6], [0, 1, 5, 6, 10], [0, 1, 5, 6], [0, 1, 5, 6, 37], [0, 1, 5, 6], [4]]
def f115H : Array (List Nat) := #[[], [], [], [], [], [], [], []]
def f115A : Ann := ⟨fun r => f115K.getD r [], fun r => f115H.getD r [], fun r i => ([] : List (Nat × Nat)).contains (r, i)⟩
theorem f115C : compF Go.Proofs.Tryz.prog f115A 115 = some f115 := by kernel_rfl

/-- switchboard/switchboardref05.part -/
abbrev f116o0 : List (Nat × Pop) := [
  (0, ⟨(some 2), .mv (.c (.t (.i .i64 0))), none⟩)]
abbrev f116r0 : Pc := .reg f116o0 [0] []
abbrev f116o1 : List (Nat × Pop) := [
  (0, ⟨(some 3), .mv (.tmp 0), none⟩),
  (1, ⟨(some 4), .bin .lss (.tmp 3) (.c (.t (.i .i64 0))), none⟩)]
abbrev f116r1 : Pc := .reg f116o1 [0, 4] []
abbrev f116o2 : List (Nat × Pop) := [
  (0, ⟨(some 2), .mv (.c (.t (.i .i64 1))), none⟩)]
abbrev f116r2 : Pc := .reg f116o2 [2] []
abbrev f116o3 : List (Nat × Pop) := [
  (0, ⟨(some 5), .mv (.tmp 0), none⟩),
  (1, ⟨(some 6), .bin .gtr (.tmp 5) (.c (.t (.i .i64 2147483647))), none⟩)]
abbrev f116r3 : Pc := .reg f116o3 [0, 6] []
abbrev f116o4 : List (Nat × Pop) := [
  (0, ⟨(some 2), .mv (.c (.t (.i .i64 2147483648))), none⟩)]
abbrev f116r4 : Pc := .reg f116o4 [2] []
abbrev f116o5 : List (Nat × Pop) := [
  (0, ⟨(some 7), .mv (.tmp 0), none⟩),
  (1, ⟨(some 8), .bin .add (.tmp 7) (.c (.t (.i .i64 1))), none⟩),
  (2, ⟨(some 2), .mv (.tmp 8), none⟩)]
abbrev f116r5 : Pc := .reg f116o5 [2] []
abbrev f116b : Pc := (.seq f116r0 (.seq (.seq f116r1 (.cond (.tmp 4) (.seq f116r2 .ret) .skip)) (.seq (.seq f116r3 (.cond (.tmp 6) (.seq f116r4 .ret) .skip)) (.seq f116r5 .ret))))
abbrev f116 : Pfn := ⟨1, 9, [.tmp 2], f116b⟩
def f116K : Array (List Nat) := #[[0], [0, 4], [2], [0, 6], [2], [2]]
def f116H : Array (List Nat) := #[[], [], [], [], [], []]
def f116A : Ann := ⟨fun r => f116K.getD r [], fun r => f116H.getD r [], fun r i => ([] : List (Nat × Nat)).contains (r, i)⟩
theorem f116C : compF Go.Proofs.Tryz.prog f116A 116 = some f116 := by kernel_rfl

/-- switchboard/wire.numbers -/
abbrev f117o0 : List (Nat × Pop) := [
  (0, ⟨(some 1), .box 44 11 (.tmp 0), none⟩),
  (1, ⟨(some 2), .nilv 3 1, none⟩)]
abbrev f117r0 : Pc := .reg f117o0 [1] [2, 23]
abbrev f117o1 : List (Nat × Pop) := [
  (0, ⟨(some 3), .fad 0 (.tmp 1), none⟩),
  (1, ⟨(some 4), .load false 1 (.tmp 3), none⟩),
  (2, ⟨(some 5), .fad 1 (.tmp 1), none⟩),
  (3, ⟨(some 6), .load false 1 (.tmp 5), none⟩),
  (4, ⟨(some 7), .fad 2 (.tmp 1), none⟩),
  (5, ⟨(some 8), .load false 1 (.tmp 7), none⟩),
  (6, ⟨(some 9), .fad 3 (.tmp 1), none⟩),
  (7, ⟨(some 10), .load false 1 (.tmp 9), none⟩),
  (8, ⟨(some 11), .fad 4 (.tmp 1), none⟩),
  (9, ⟨(some 12), .load false 1 (.tmp 11), none⟩),
  (10, ⟨(some 13), .fad 5 (.tmp 1), none⟩),
  (11, ⟨(some 14), .load false 1 (.tmp 13), none⟩),
  (12, ⟨(some 15), .fad 6 (.tmp 1), none⟩),
  (13, ⟨(some 16), .load false 1 (.tmp 15), none⟩),
  (14, ⟨(some 17), .fad 7 (.tmp 1), none⟩),
  (15, ⟨(some 18), .load false 1 (.tmp 17), none⟩),
  (16, ⟨(some 19), .fad 8 (.tmp 1), none⟩),
  (17, ⟨(some 20), .load false 1 (.tmp 19), none⟩),
  (18, ⟨(some 21), .fad 9 (.tmp 1), none⟩),
  (19, ⟨(some 22), .load false 1 (.tmp 21), none⟩),
  (20, ⟨(some 23), .bslO 3 1 [(.tmp 4), (.tmp 6), (.tmp 8), (.tmp 10), (.tmp 12), (.tmp 14), (.tmp 16), (.tmp 18), (.tmp 20), (.tmp 22)], none⟩),
  (21, ⟨(some 2), .mv (.tmp 23), none⟩)]
abbrev f117r1 : Pc := .reg f117o1 [2] [1]
abbrev f117b : Pc := (.seq f117r0 (.seq f117r1 .ret))
abbrev f117 : Pfn := ⟨1, 24, [.tmp 2], f117b⟩
def f117K : Array (List Nat) := #[[1], [2]]
def f117H : Array (List Nat) := #[[2, 23], [1]]
def f117A : Ann := ⟨fun r => f117K.getD r [], fun r => f117H.getD r [], fun r i => ([(1, 20), (1, 20)] : List (Nat × Nat)).contains (r, i)⟩
theorem f117C : compF Go.Proofs.Tryz.prog f117A 117 = some f117 := by kernel_rfl

/-- slices.IndexFunc[[]switchboard/ledger.Entry,switchboard/ledger.Entry] -/
abbrev f118o0 : List (Nat × Pop) := [
  (0, ⟨(some 4), .mv (.c (.t (.i .i64 0))), none⟩)]
abbrev f118r0 : Pc := .reg f118o0 [0, 1] []
abbrev f118o1 : List (Nat × Pop) := [
  (0, ⟨(some 6), .mv (.tmp 0), none⟩),
  (1, ⟨(some 7), .lenL (.tmp 6), none⟩),
  (2, ⟨(some 8), .mv (.c (.t (.i .i64 0))), none⟩)]
abbrev f118r1 : Pc := .reg f118o1 [0, 1, 7, 8] []
abbrev f118o2 : List (Nat × Pop) := [
  (0, ⟨(some 9), .bin .lss (.tmp 8) (.tmp 7), none⟩)]
abbrev f118r2 : Pc := .reg f118o2 [0, 1, 7, 8, 9] []
abbrev f118o3 : List (Nat × Pop) := [
  (0, ⟨(some 10), .mv (.tmp 8), none⟩),
  (1, ⟨(some 5), .mv (.tmp 10), none⟩)]
abbrev f118r3 : Pc := .reg f118o3 [0, 1, 5, 7, 8] []
abbrev f118o4 : List (Nat × Pop) := [
  (0, ⟨(some 11), .mv (.tmp 1), none⟩),
  (1, ⟨(some 12), .mv (.tmp 0), none⟩),
  (2, ⟨(some 13), .mv (.tmp 5), none⟩),
  (3, ⟨(some 14), .ixS 5 (.tmp 12) (.tmp 13), none⟩),
  (4, ⟨(some 15), .load true 5 (.tmp 14), none⟩),
  (5, ⟨(some 16), .callv (.tmp 11) [(.tmp 15)], none⟩)]
abbrev f118r4 : Pc := .reg f118o4 [0, 1, 5, 7, 8, 16] []
abbrev f118o5 : List (Nat × Pop) := [
  (0, ⟨(some 17), .mv (.tmp 5), none⟩),
  (1, ⟨(some 4), .mv (.tmp 17), none⟩)]
abbrev f118r5 : Pc := .reg f118o5 [4] []
abbrev f118o6 : List (Nat × Pop) := [
  (0, ⟨(some 18), .bin .add (.tmp 8) (.c (.t (.i .i64 1))), none⟩),
  (1, ⟨(some 8), .mv (.tmp 18), none⟩)]
abbrev f118r6 : Pc := .reg f118o6 [0, 1, 7, 8] []
def f118l0 : Pc := (.seq f118r2 (.seq (.cond (.tmp 9) .skip (.exit 0)) (.seq (.block 1 (.seq f118r3 (.seq f118r4 (.cond (.tmp 16) (.seq f118r5 .ret) .skip)))) f118r6)))
theorem f118l0e (C : Cfg) (s : St) : evL C f118l0 s = evL C (.seq f118r2 (.seq (.cond (.tmp 9) .skip (.exit 0)) (.seq (.block 1 (.seq f118r3 (.seq f118r4 (.cond (.tmp 16) (.seq f118r5 .ret) .skip)))) f118r6))) s := rfl
abbrev f118o7 : List (Nat × Pop) := [
  (0, ⟨(some 4), .mv (.c (.t (.i .i64 (-1)))), none⟩)]
abbrev f118r7 : Pc := .reg f118o7 [4] []
abbrev f118b : Pc := (.seq f118r0 (.seq (.seq f118r1 (.block 0 (.loop f118l0))) (.seq f118r7 .ret)))
abbrev f118 : Pfn := ⟨2, 19, [.tmp 4], f118b⟩
def f118K : Array (List Nat) := #[[0, 1], [0, 1, 7, 8], [0, 1, 7, 8, 9], [0, 1, 5, 7, 8], [0, 1, 5, 7, 8, 16], [4], [0, 1, 7, 8], [4]]
def f118H : Array (List Nat) := #[[], [], [], [], [], [], [], []]
def f118A : Ann := ⟨fun r => f118K.getD r [], fun r => f118H.getD r [], fun r i => ([] : List (Nat × Nat)).contains (r, i)⟩
theorem f118C : compF Go.Proofs.Tryz.prog f118A 118 = some f118 := by kernel_rfl

/-- switchboard/ledger.Find$1 -/
abbrev f119o0 : List (Nat × Pop) := [
  (0, ⟨(some 2), .box 165 5 (.tmp 0), none⟩),
  (1, ⟨(some 3), .mv (.c (.t (.b false))), none⟩)]
abbrev f119r0 : Pc := .reg f119o0 [1, 2] []
abbrev f119o1 : List (Nat × Pop) := [
  (0, ⟨(some 4), .fad 0 (.tmp 2), none⟩),
  (1, ⟨(some 5), .load true 4 (.tmp 4), none⟩),
  (2, ⟨(some 6), .load true 4 (.tmp 1), none⟩),
  (3, ⟨(some 7), .beqS [0, 0, 0, 0] false (.tmp 5) (.tmp 6), none⟩),
  (4, ⟨(some 3), .mv (.tmp 7), none⟩)]
abbrev f119r1 : Pc := .reg f119o1 [3] [2]
abbrev f119b : Pc := (.seq f119r0 (.seq f119r1 .ret))
abbrev f119 : Pfn := ⟨2, 8, [.tmp 3], f119b⟩
def f119K : Array (List Nat) := #[[1, 2], [3]]
def f119H : Array (List Nat) := #[[], [2]]
def f119A : Ann := ⟨fun r => f119K.getD r [], fun r => f119H.getD r [], fun r i => ([] : List (Nat × Nat)).contains (r, i)⟩
theorem f119C : compF Go.Proofs.Tryz.prog f119A 119 = some f119 := by kernel_rfl

/-- switchboard/mat.Apply -/
abbrev f120o0 : List (Nat × Pop) := [
  (0, ⟨(some 4), .nilv 3 1, none⟩),
  (1, ⟨(some 5), .mv (.c (.t (.b false))), none⟩)]
abbrev f120r0 : Pc := .reg f120o0 [0, 1] [4, 6, 28]
abbrev f120o1 : List (Nat × Pop) := [
  (0, ⟨(some 6), .nilv 3 1, none⟩)]
abbrev f120r1 : Pc := .reg f120o1 [0, 1, 6] []
abbrev f120o2 : List (Nat × Pop) := [
  (0, ⟨(some 11), .mv (.tmp 0), none⟩),
  (1, ⟨(some 12), .lenL (.tmp 11), none⟩),
  (2, ⟨(some 13), .mv (.c (.t (.i .i64 0))), none⟩)]
abbrev f120r2 : Pc := .reg f120o2 [1, 6, 11, 12, 13] []
abbrev f120o3 : List (Nat × Pop) := [
  (0, ⟨(some 14), .bin .lss (.tmp 13) (.tmp 12), none⟩)]
abbrev f120r3 : Pc := .reg f120o3 [1, 6, 11, 12, 13, 14] []
abbrev f120o4 : List (Nat × Pop) := [
  (0, ⟨(some 15), .ixS 1 (.tmp 11) (.tmp 13), none⟩),
  (1, ⟨(some 16), .load false 1 (.tmp 15), none⟩),
  (2, ⟨(some 8), .mv (.tmp 16), none⟩)]
abbrev f120r4 : Pc := .reg f120o4 [1, 6, 8, 11, 12, 13] []
abbrev f120o5 : List (Nat × Pop) := [
  (0, ⟨(some 18), .mv (.tmp 8), none⟩),
  (1, ⟨(some 19), .mv (.tmp 1), none⟩),
  (2, ⟨(some 20), .call 146 [(.tmp 18), (.tmp 19)], none⟩),
  (3, ⟨(some 17), .mv (.tmp 20), none⟩),
  (4, ⟨(some 21), .ext 0 (.tmp 17), none⟩),
  (5, ⟨(some 22), .ext 1 (.tmp 17), none⟩),
  (6, ⟨(some 9), .mv (.tmp 21), none⟩),
  (7, ⟨(some 10), .mv (.tmp 22), none⟩)]
abbrev f120r5 : Pc := .reg f120o5 [1, 6, 9, 10, 11, 12, 13] []
abbrev f120o6 : List (Nat × Pop) := [
  (0, ⟨(some 23), .mv (.tmp 10), none⟩),
  (1, ⟨(some 24), .un .not (.tmp 23), none⟩)]
abbrev f120r6 : Pc := .reg f120o6 [1, 6, 9, 11, 12, 13, 24] []
abbrev f120o7 : List (Nat × Pop) := [
  (0, ⟨(some 4), .nilv 3 1, none⟩),
  (1, ⟨(some 5), .mv (.c (.t (.b false))), none⟩)]
abbrev f120r7 : Pc := .reg f120o7 [4, 5] []
abbrev f120o8 : List (Nat × Pop) := [
  (0, ⟨(some 25), .mv (.tmp 6), none⟩),
  (1, ⟨(some 26), .mv (.tmp 9), none⟩),
  (2, ⟨(some 27), .bslT 1 [(.tmp 26)], none⟩),
  (3, ⟨(some 28), .app 3 1 8 (.tmp 25) (.tmp 27), none⟩),
  (4, ⟨(some 6), .mv (.tmp 28), none⟩)]
abbrev f120r8 : Pc := .reg f120o8 [1, 6, 11, 12, 13] []
abbrev f120o9 : List (Nat × Pop) := [
  (0, ⟨(some 29), .bin .add (.tmp 13) (.c (.t (.i .i64 1))), none⟩),
  (1, ⟨(some 13), .mv (.tmp 29), none⟩)]
abbrev f120r9 : Pc := .reg f120o9 [1, 6, 11, 12, 13] []
def f120l0 : Pc := (.seq f120r3 (.seq (.cond (.tmp 14) .skip (.exit 0)) (.seq (.block 1 (.seq f120r4 (.seq f120r5 (.seq (.seq f120r6 (.cond (.tmp 24) (.seq f120r7 .ret) .skip)) f120r8)))) f120r9)))
theorem f120l0e (C : Cfg) (s : St) : evL C f120l0 s = evL C (.seq f120r3 (.seq (.cond (.tmp 14) .skip (.exit 0)) (.seq (.block 1 (.seq f120r4 (.seq f120r5 (.seq (.seq f120r6 (.cond (.tmp 24) (.seq f120r7 .ret) .skip)) f120r8)))) f120r9))) s := rfl
abbrev f120o10 : List (Nat × Pop) := [
  (0, ⟨(some 30), .mv (.tmp 6), none⟩),
  (1, ⟨(some 4), .mv (.tmp 30), none⟩),
  (2, ⟨(some 5), .mv (.c (.t (.b true))), none⟩)]
abbrev f120r10 : Pc := .reg f120o10 [4, 5] []
abbrev f120b : Pc := (.seq f120r0 (.seq f120r1 (.seq (.seq f120r2 (.block 0 (.loop f120l0))) (.seq f120r10 .ret))))
abbrev f120 : Pfn := ⟨2, 31, [.tmp 4, .tmp 5], f120b⟩
def f120K : Array (List Nat) := #[[0, 1], [0, 1, 6], [1, 6, 11, 12, 13], [1, 6, 11, 12, 13, 14], [1, 6, 8, 11, 12, 13], [1, 6, 9, 10, 11, 12, 13], [1, 6, 9, 11, 12, 13, 24], [4, 5], [1, 6, 11, 12, 13], [1, 6, 11, 12, 13], [4, 5]]
def f120H : Array (List Nat) := #[[4, 6, 28], [], [], [], [], [], [], [], [], [], []]
def f120A : Ann := ⟨fun r => f120K.getD r [], fun r => f120H.getD r [], fun r i => ([] : List (Nat × Nat)).contains (r, i)⟩
theorem f120C : compF Go.Proofs.Tryz.prog f120A 120 = some f120 := by kernel_rfl

/-- switchboard/vec.Relu -/
abbrev f121o0 : List (Nat × Pop) := [
  (0, ⟨(some 2), .nilv 3 1, none⟩)]
abbrev f121r0 : Pc := .reg f121o0 [0] [2]
abbrev f121o1 : List (Nat × Pop) := [
  (0, ⟨(some 3), .mv (.tmp 0), none⟩),
  (1, ⟨(some 4), .call 141 [(.tmp 3), (.c (.fn 147 []))], none⟩),
  (2, ⟨(some 2), .mv (.tmp 4), none⟩)]
abbrev f121r1 : Pc := .reg f121o1 [2] []
abbrev f121b : Pc := (.seq f121r0 (.seq f121r1 .ret))
abbrev f121 : Pfn := ⟨1, 5, [.tmp 2], f121b⟩
def f121K : Array (List Nat) := #[[0], [2]]
def f121H : Array (List Nat) := #[[2], []]
def f121A : Ann := ⟨fun r => f121K.getD r [], fun r => f121H.getD r [], fun r i => ([] : List (Nat × Nat)).contains (r, i)⟩
theorem f121C : compF Go.Proofs.Tryz.prog f121A 121 = some f121 := by kernel_rfl

/-- slices.Clone[[]switchboard/ledger.Entry,switchboard/ledger.Entry] -/
abbrev f122o0 : List (Nat × Pop) := [
  (0, ⟨(some 2), .nilv 165 5, none⟩)]
abbrev f122r0 : Pc := .reg f122o0 [0] [2, 5, 7]
abbrev f122o1 : List (Nat × Pop) := [
  (0, ⟨(some 3), .mv (.tmp 0), none⟩),
  (1, ⟨(some 4), .isnilS false (.tmp 3), none⟩)]
abbrev f122r1 : Pc := .reg f122o1 [0, 4] []
abbrev f122o2 : List (Nat × Pop) := [
  (0, ⟨(some 2), .nilv 165 5, none⟩)]
abbrev f122r2 : Pc := .reg f122o2 [2] []
abbrev f122o3 : List (Nat × Pop) := [
  (0, ⟨(some 5), .bslO 165 5 [], none⟩),
  (1, ⟨(some 6), .mv (.tmp 0), none⟩),
  (2, ⟨(some 7), .app 165 5 56 (.tmp 5) (.tmp 6), none⟩),
  (3, ⟨(some 2), .mv (.tmp 7), none⟩)]
abbrev f122r3 : Pc := .reg f122o3 [2] []
abbrev f122b : Pc := (.seq f122r0 (.seq (.seq f122r1 (.cond (.tmp 4) (.seq f122r2 .ret) .skip)) (.seq f122r3 .ret)))
abbrev f122 : Pfn := ⟨1, 8, [.tmp 2], f122b⟩
def f122K : Array (List Nat) := #[[0], [0, 4], [2], [2]]
def f122H : Array (List Nat) := #[[2, 5, 7], [], [], []]
def f122A : Ann := ⟨fun r => f122K.getD r [], fun r => f122H.getD r [], fun r i => ([(3, 0), (3, 0)] : List (Nat × Nat)).contains (r, i)⟩
theorem f122C : compF Go.Proofs.Tryz.prog f122A 122 = some f122 := by kernel_rfl

/-- switchboard/wire.four -/
abbrev f123o0 : List (Nat × Pop) := [
  (0, ⟨(some 2), .mv (.c (.t (.s []))), none⟩)]
abbrev f123r0 : Pc := .reg f123o0 [0] []
abbrev f123o1 : List (Nat × Pop) := [
  (0, ⟨(some 3), .mv (.tmp 0), none⟩),
  (1, ⟨(some 4), .cvi .u8 (.tmp 3), none⟩),
  (2, ⟨(some 5), .mv (.tmp 0), none⟩),
  (3, ⟨(some 6), .bin .shr (.tmp 5) (.c (.t (.i .u64 8))), none⟩),
  (4, ⟨(some 7), .cvi .u8 (.tmp 6), none⟩),
  (5, ⟨(some 8), .mv (.tmp 0), none⟩),
  (6, ⟨(some 9), .bin .shr (.tmp 8) (.c (.t (.i .u64 16))), none⟩),
  (7, ⟨(some 10), .cvi .u8 (.tmp 9), none⟩),
  (8, ⟨(some 11), .mv (.tmp 0), none⟩),
  (9, ⟨(some 12), .bin .shr (.tmp 11) (.c (.t (.i .u64 24))), none⟩),
  (10, ⟨(some 13), .cvi .u8 (.tmp 12), none⟩),
  (11, ⟨(some 14), .bslT 1 [(.tmp 4), (.tmp 7), (.tmp 10), (.tmp 13)], none⟩),
  (12, ⟨(some 15), .cvbs (.tmp 14), none⟩),
  (13, ⟨(some 2), .mv (.tmp 15), none⟩)]
abbrev f123r1 : Pc := .reg f123o1 [2] []
abbrev f123b : Pc := (.seq f123r0 (.seq f123r1 .ret))
abbrev f123 : Pfn := ⟨1, 16, [.tmp 2], f123b⟩
def f123K : Array (List Nat) := #[[0], [2]]
def f123H : Array (List Nat) := #[[], []]
def f123A : Ann := ⟨fun r => f123K.getD r [], fun r => f123H.getD r [], fun r i => ([] : List (Nat × Nat)).contains (r, i)⟩
theorem f123C : compF Go.Proofs.Tryz.prog f123A 123 = some f123 := by kernel_rfl

/-- slices.Index[[]int,int] -/
abbrev f124o0 : List (Nat × Pop) := [
  (0, ⟨(some 4), .mv (.c (.t (.i .i64 0))), none⟩)]
abbrev f124r0 : Pc := .reg f124o0 [0, 1] []
abbrev f124o1 : List (Nat × Pop) := [
  (0, ⟨(some 6), .mv (.tmp 0), none⟩),
  (1, ⟨(some 7), .lenL (.tmp 6), none⟩),
  (2, ⟨(some 8), .mv (.c (.t (.i .i64 0))), none⟩)]
abbrev f124r1 : Pc := .reg f124o1 [0, 1, 7, 8] []
abbrev f124o2 : List (Nat × Pop) := [
  (0, ⟨(some 9), .bin .lss (.tmp 8) (.tmp 7), none⟩)]
abbrev f124r2 : Pc := .reg f124o2 [0, 1, 7, 8, 9] []
abbrev f124o3 : List (Nat × Pop) := [
  (0, ⟨(some 10), .mv (.tmp 8), none⟩),
  (1, ⟨(some 5), .mv (.tmp 10), none⟩)]
abbrev f124r3 : Pc := .reg f124o3 [0, 1, 5, 7, 8] []
abbrev f124o4 : List (Nat × Pop) := [
  (0, ⟨(some 11), .mv (.tmp 1), none⟩),
  (1, ⟨(some 12), .mv (.tmp 0), none⟩),
  (2, ⟨(some 13), .mv (.tmp 5), none⟩),
  (3, ⟨(some 14), .ixS 1 (.tmp 12) (.tmp 13), none⟩),
  (4, ⟨(some 15), .load false 1 (.tmp 14), none⟩),
  (5, ⟨(some 16), .bin .eql (.tmp 11) (.tmp 15), none⟩)]
abbrev f124r4 : Pc := .reg f124o4 [0, 1, 5, 7, 8, 16] []
abbrev f124o5 : List (Nat × Pop) := [
  (0, ⟨(some 17), .mv (.tmp 5), none⟩),
  (1, ⟨(some 4), .mv (.tmp 17), none⟩)]
abbrev f124r5 : Pc := .reg f124o5 [4] []
abbrev f124o6 : List (Nat × Pop) := [
  (0, ⟨(some 18), .bin .add (.tmp 8) (.c (.t (.i .i64 1))), none⟩),
  (1, ⟨(some 8), .mv (.tmp 18), none⟩)]
abbrev f124r6 : Pc := .reg f124o6 [0, 1, 7, 8] []
def f124l0 : Pc := (.seq f124r2 (.seq (.cond (.tmp 9) .skip (.exit 0)) (.seq (.block 1 (.seq f124r3 (.seq f124r4 (.cond (.tmp 16) (.seq f124r5 .ret) .skip)))) f124r6)))
theorem f124l0e (C : Cfg) (s : St) : evL C f124l0 s = evL C (.seq f124r2 (.seq (.cond (.tmp 9) .skip (.exit 0)) (.seq (.block 1 (.seq f124r3 (.seq f124r4 (.cond (.tmp 16) (.seq f124r5 .ret) .skip)))) f124r6))) s := rfl
abbrev f124o7 : List (Nat × Pop) := [
  (0, ⟨(some 4), .mv (.c (.t (.i .i64 (-1)))), none⟩)]
abbrev f124r7 : Pc := .reg f124o7 [4] []
abbrev f124b : Pc := (.seq f124r0 (.seq (.seq f124r1 (.block 0 (.loop f124l0))) (.seq f124r7 .ret)))
abbrev f124 : Pfn := ⟨2, 19, [.tmp 4], f124b⟩
def f124K : Array (List Nat) := #[[0, 1], [0, 1, 7, 8], [0, 1, 7, 8, 9], [0, 1, 5, 7, 8], [0, 1, 5, 7, 8, 16], [4], [0, 1, 7, 8], [4]]
def f124H : Array (List Nat) := #[[], [], [], [], [], [], [], []]
def f124A : Ann := ⟨fun r => f124K.getD r [], fun r => f124H.getD r [], fun r i => ([] : List (Nat × Nat)).contains (r, i)⟩
theorem f124C : compF Go.Proofs.Tryz.prog f124A 124 = some f124 := by kernel_rfl

/-- switchboard/mat.Right$1 -/
abbrev f136o0 : List (Nat × Pop) := [
  (0, ⟨(some 3), .mv (.c (.t (.b false))), none⟩)]
abbrev f136r0 : Pc := .reg f136o0 [0, 1] []
abbrev f136o1 : List (Nat × Pop) := [
  (0, ⟨(some 4), .mv (.tmp 0), none⟩),
  (1, ⟨(some 5), .lenL (.tmp 4), none⟩),
  (2, ⟨(some 6), .load false 1 (.tmp 1), none⟩),
  (3, ⟨(some 7), .bin .neq (.tmp 5) (.tmp 6), none⟩),
  (4, ⟨(some 8), .mv (.tmp 7), none⟩),
  (5, ⟨(some 9), .mv (.tmp 0), (some (8, false))⟩),
  (6, ⟨(some 10), .call 69 [(.tmp 9), (.c (.fn 137 []))], (some (8, false))⟩),
  (7, ⟨(some 11), .pick (.tmp 8) (.c (.t (.b true))) (.tmp 10), none⟩),
  (8, ⟨(some 3), .mv (.tmp 11), none⟩)]
abbrev f136r1 : Pc := .reg f136o1 [3] []
abbrev f136b : Pc := (.seq f136r0 (.seq f136r1 .ret))
abbrev f136 : Pfn := ⟨2, 12, [.tmp 3], f136b⟩
def f136K : Array (List Nat) := #[[0, 1], [3]]
def f136H : Array (List Nat) := #[[], []]
def f136A : Ann := ⟨fun r => f136K.getD r [], fun r => f136H.getD r [], fun r i => ([] : List (Nat × Nat)).contains (r, i)⟩
theorem f136C : compF Go.Proofs.Tryz.prog f136A 136 = some f136 := by kernel_rfl

/-- switchboard/mat.Right$1$1 -/
abbrev f137o0 : List (Nat × Pop) := [
  (0, ⟨(some 2), .mv (.c (.t (.b false))), none⟩)]
abbrev f137r0 : Pc := .reg f137o0 [0] []
abbrev f137o1 : List (Nat × Pop) := [
  (0, ⟨(some 3), .mv (.tmp 0), none⟩),
  (1, ⟨(some 4), .call 71 [(.tmp 3)], none⟩),
  (2, ⟨(some 5), .mv (.tmp 0), none⟩),
  (3, ⟨(some 6), .bin .neq (.tmp 4) (.tmp 5), none⟩),
  (4, ⟨(some 2), .mv (.tmp 6), none⟩)]
abbrev f137r1 : Pc := .reg f137o1 [2] []
abbrev f137b : Pc := (.seq f137r0 (.seq f137r1 .ret))
abbrev f137 : Pfn := ⟨1, 7, [.tmp 2], f137b⟩
def f137K : Array (List Nat) := #[[0], [2]]
def f137H : Array (List Nat) := #[[], []]
def f137A : Ann := ⟨fun r => f137K.getD r [], fun r => f137H.getD r [], fun r i => ([] : List (Nat × Nat)).contains (r, i)⟩
theorem f137C : compF Go.Proofs.Tryz.prog f137A 137 = some f137 := by kernel_rfl

/-- slices.IndexFunc[[]switchboard/api.Expert,switchboard/api.Expert] -/
abbrev f138o0 : List (Nat × Pop) := [
  (0, ⟨(some 4), .mv (.c (.t (.i .i64 0))), none⟩)]
abbrev f138r0 : Pc := .reg f138o0 [0, 1] []
abbrev f138o1 : List (Nat × Pop) := [
  (0, ⟨(some 6), .mv (.tmp 0), none⟩),
  (1, ⟨(some 7), .lenL (.tmp 6), none⟩),
  (2, ⟨(some 8), .mv (.c (.t (.i .i64 0))), none⟩)]
abbrev f138r1 : Pc := .reg f138o1 [0, 1, 7, 8] []
abbrev f138o2 : List (Nat × Pop) := [
  (0, ⟨(some 9), .bin .lss (.tmp 8) (.tmp 7), none⟩)]
abbrev f138r2 : Pc := .reg f138o2 [0, 1, 7, 8, 9] []
abbrev f138o3 : List (Nat × Pop) := [
  (0, ⟨(some 10), .mv (.tmp 8), none⟩),
  (1, ⟨(some 5), .mv (.tmp 10), none⟩)]
abbrev f138r3 : Pc := .reg f138o3 [0, 1, 5, 7, 8] []
abbrev f138o4 : List (Nat × Pop) := [
  (0, ⟨(some 11), .mv (.tmp 1), none⟩),
  (1, ⟨(some 12), .mv (.tmp 0), none⟩),
  (2, ⟨(some 13), .mv (.tmp 5), none⟩),
  (3, ⟨(some 14), .ixS 2 (.tmp 12) (.tmp 13), none⟩),
  (4, ⟨(some 15), .load true 2 (.tmp 14), none⟩),
  (5, ⟨(some 16), .callv (.tmp 11) [(.tmp 15)], none⟩)]
abbrev f138r4 : Pc := .reg f138o4 [0, 1, 5, 7, 8, 16] []
abbrev f138o5 : List (Nat × Pop) := [
  (0, ⟨(some 17), .mv (.tmp 5), none⟩),
  (1, ⟨(some 4), .mv (.tmp 17), none⟩)]
abbrev f138r5 : Pc := .reg f138o5 [4] []
abbrev f138o6 : List (Nat × Pop) := [
  (0, ⟨(some 18), .bin .add (.tmp 8) (.c (.t (.i .i64 1))), none⟩),
  (1, ⟨(some 8), .mv (.tmp 18), none⟩)]
abbrev f138r6 : Pc := .reg f138o6 [0, 1, 7, 8] []
def f138l0 : Pc := (.seq f138r2 (.seq (.cond (.tmp 9) .skip (.exit 0)) (.seq (.block 1 (.seq f138r3 (.seq f138r4 (.cond (.tmp 16) (.seq f138r5 .ret) .skip)))) f138r6)))
theorem f138l0e (C : Cfg) (s : St) : evL C f138l0 s = evL C (.seq f138r2 (.seq (.cond (.tmp 9) .skip (.exit 0)) (.seq (.block 1 (.seq f138r3 (.seq f138r4 (.cond (.tmp 16) (.seq f138r5 .ret) .skip)))) f138r6))) s := rfl
abbrev f138o7 : List (Nat × Pop) := [
  (0, ⟨(some 4), .mv (.c (.t (.i .i64 (-1)))), none⟩)]
abbrev f138r7 : Pc := .reg f138o7 [4] []
abbrev f138b : Pc := (.seq f138r0 (.seq (.seq f138r1 (.block 0 (.loop f138l0))) (.seq f138r7 .ret)))
abbrev f138 : Pfn := ⟨2, 19, [.tmp 4], f138b⟩
def f138K : Array (List Nat) := #[[0, 1], [0, 1, 7, 8], [0, 1, 7, 8, 9], [0, 1, 5, 7, 8], [0, 1, 5, 7, 8, 16], [4], [0, 1, 7, 8], [4]]
def f138H : Array (List Nat) := #[[], [], [], [], [], [], [], []]
def f138A : Ann := ⟨fun r => f138K.getD r [], fun r => f138H.getD r [], fun r i => ([] : List (Nat × Nat)).contains (r, i)⟩
theorem f138C : compF Go.Proofs.Tryz.prog f138A 138 = some f138 := by kernel_rfl

/-- switchboard/top.Two -/
abbrev f139o0 : List (Nat × Pop) := [
  (0, ⟨(some 2), .mv (.c (.t (.i .i64 0))), none⟩),
  (1, ⟨(some 3), .mv (.c (.t (.i .i64 0))), none⟩)]
abbrev f139r0 : Pc := .reg f139o0 [0] []
abbrev f139o1 : List (Nat × Pop) := [
  (0, ⟨(some 5), .mv (.tmp 0), none⟩),
  (1, ⟨(some 6), .call 154 [(.tmp 5)], none⟩),
  (2, ⟨(some 4), .mv (.tmp 6), none⟩)]
abbrev f139r1 : Pc := .reg f139o1 [0, 4] []
abbrev f139o2 : List (Nat × Pop) := [
  (0, ⟨(some 7), .mv (.tmp 4), none⟩),
  (1, ⟨(some 8), .mv (.tmp 0), none⟩),
  (2, ⟨(some 9), .mv (.tmp 4), none⟩),
  (3, ⟨(some 10), .call 155 [(.tmp 8), (.tmp 9)], none⟩),
  (4, ⟨(some 2), .mv (.tmp 7), none⟩),
  (5, ⟨(some 3), .mv (.tmp 10), none⟩)]
abbrev f139r2 : Pc := .reg f139o2 [2, 3] []
abbrev f139b : Pc := (.seq f139r0 (.seq f139r1 (.seq f139r2 .ret)))
abbrev f139 : Pfn := ⟨1, 11, [.tmp 2, .tmp 3], f139b⟩
def f139K : Array (List Nat) := #[[0], [0, 4], [2, 3]]
def f139H : Array (List Nat) := #[[], [], []]
def f139A : Ann := ⟨fun r => f139K.getD r [], fun r => f139H.getD r [], fun r i => ([] : List (Nat × Nat)).contains (r, i)⟩
theorem f139C : compF Go.Proofs.Tryz.prog f139A 139 = some f139 := by kernel_rfl

/-- switchboard/share.Shares -/
abbrev f140o0 : List (Nat × Pop) := [
  (0, ⟨(some 4), .mv (.c (.t (.i .i64 0))), none⟩),
  (1, ⟨(some 5), .mv (.c (.t (.i .i64 0))), none⟩)]
abbrev f140r0 : Pc := .reg f140o0 [0, 1] []
abbrev f140o1 : List (Nat × Pop) := [
  (0, ⟨(some 9), .mv (.tmp 0), none⟩),
  (1, ⟨(some 10), .call 71 [(.tmp 9)], none⟩),
  (2, ⟨(some 11), .mm true [(.tmp 10), (.c (.t (.i .i64 0)))], none⟩),
  (3, ⟨(some 12), .bin .add (.tmp 11) (.c (.t (.i .i64 1))), none⟩),
  (4, ⟨(some 13), .mv (.tmp 1), none⟩),
  (5, ⟨(some 14), .call 71 [(.tmp 13)], none⟩),
  (6, ⟨(some 15), .mm true [(.tmp 14), (.c (.t (.i .i64 0)))], none⟩),
  (7, ⟨(some 16), .bin .add (.tmp 15) (.c (.t (.i .i64 1))), none⟩),
  (8, ⟨(some 6), .mv (.tmp 12), none⟩),
  (9, ⟨(some 7), .mv (.tmp 16), none⟩)]
abbrev f140r1 : Pc := .reg f140o1 [6, 7] []
abbrev f140o2 : List (Nat × Pop) := [
  (0, ⟨(some 17), .mv (.tmp 6), none⟩),
  (1, ⟨(some 18), .bin .mul (.tmp 17) (.c (.t (.i .i64 65536))), none⟩),
  (2, ⟨(some 19), .mv (.tmp 6), none⟩),
  (3, ⟨(some 20), .mv (.tmp 7), none⟩),
  (4, ⟨(some 21), .bin .add (.tmp 19) (.tmp 20), none⟩),
  (5, ⟨(some 22), .bin .quo (.tmp 18) (.tmp 21), none⟩),
  (6, ⟨(some 8), .mv (.tmp 22), none⟩)]
abbrev f140r2 : Pc := .reg f140o2 [8] []
abbrev f140o3 : List (Nat × Pop) := [
  (0, ⟨(some 23), .mv (.tmp 8), none⟩),
  (1, ⟨(some 24), .mv (.tmp 8), none⟩),
  (2, ⟨(some 25), .bin .sub (.c (.t (.i .i64 65536))) (.tmp 24), none⟩),
  (3, ⟨(some 4), .mv (.tmp 23), none⟩),
  (4, ⟨(some 5), .mv (.tmp 25), none⟩)]
abbrev f140r3 : Pc := .reg f140o3 [4, 5] []
abbrev f140b : Pc := (.seq f140r0 (.seq f140r1 (.seq f140r2 (.seq f140r3 .ret))))
abbrev f140 : Pfn := ⟨2, 26, [.tmp 4, .tmp 5], f140b⟩
def f140K : Array (List Nat) := #[[0, 1], [6, 7], [8], [4, 5]]
def f140H : Array (List Nat) := #[[], [], [], []]
def f140A : Ann := ⟨fun r => f140K.getD r [], fun r => f140H.getD r [], fun r i => ([] : List (Nat × Nat)).contains (r, i)⟩
theorem f140C : compF Go.Proofs.Tryz.prog f140A 140 = some f140 := by kernel_rfl

/-- switchboard/vec.each -/
abbrev f141o0 : List (Nat × Pop) := [
  (0, ⟨(some 4), .nilv 3 1, none⟩)]
abbrev f141r0 : Pc := .reg f141o0 [0, 1] [4, 5, 21]
abbrev f141o1 : List (Nat × Pop) := [
  (0, ⟨(some 5), .nilv 3 1, none⟩)]
abbrev f141r1 : Pc := .reg f141o1 [0, 1, 5] []
abbrev f141o2 : List (Nat × Pop) := [
  (0, ⟨(some 8), .mv (.tmp 0), none⟩),
  (1, ⟨(some 9), .lenL (.tmp 8), none⟩),
  (2, ⟨(some 10), .mv (.c (.t (.i .i64 0))), none⟩)]
abbrev f141r2 : Pc := .reg f141o2 [1, 5, 8, 9, 10] []
abbrev f141o3 : List (Nat × Pop) := [
  (0, ⟨(some 11), .bin .lss (.tmp 10) (.tmp 9), none⟩)]
abbrev f141r3 : Pc := .reg f141o3 [1, 5, 8, 9, 10, 11] []
abbrev f141o4 : List (Nat × Pop) := [
  (0, ⟨(some 12), .mv (.tmp 10), none⟩),
  (1, ⟨(some 13), .ixS 1 (.tmp 8) (.tmp 10), none⟩),
  (2, ⟨(some 14), .load false 1 (.tmp 13), none⟩),
  (3, ⟨(some 6), .mv (.tmp 12), none⟩),
  (4, ⟨(some 7), .mv (.tmp 14), none⟩)]
abbrev f141r4 : Pc := .reg f141o4 [1, 5, 6, 7, 8, 9, 10] []
abbrev f141o5 : List (Nat × Pop) := [
  (0, ⟨(some 15), .mv (.tmp 5), none⟩),
  (1, ⟨(some 16), .mv (.tmp 1), none⟩),
  (2, ⟨(some 17), .mv (.tmp 6), none⟩),
  (3, ⟨(some 18), .mv (.tmp 7), none⟩),
  (4, ⟨(some 19), .callv (.tmp 16) [(.tmp 17), (.tmp 18)], none⟩),
  (5, ⟨(some 20), .bslT 1 [(.tmp 19)], none⟩),
  (6, ⟨(some 21), .app 3 1 8 (.tmp 15) (.tmp 20), none⟩),
  (7, ⟨(some 5), .mv (.tmp 21), none⟩)]
abbrev f141r5 : Pc := .reg f141o5 [1, 5, 8, 9, 10] []
abbrev f141o6 : List (Nat × Pop) := [
  (0, ⟨(some 22), .bin .add (.tmp 10) (.c (.t (.i .i64 1))), none⟩),
  (1, ⟨(some 10), .mv (.tmp 22), none⟩)]
abbrev f141r6 : Pc := .reg f141o6 [1, 5, 8, 9, 10] []
def f141l0 : Pc := (.seq f141r3 (.seq (.cond (.tmp 11) .skip (.exit 0)) (.seq (.block 1 (.seq f141r4 f141r5)) f141r6)))
theorem f141l0e (C : Cfg) (s : St) : evL C f141l0 s = evL C (.seq f141r3 (.seq (.cond (.tmp 11) .skip (.exit 0)) (.seq (.block 1 (.seq f141r4 f141r5)) f141r6))) s := rfl
abbrev f141o7 : List (Nat × Pop) := [
  (0, ⟨(some 23), .mv (.tmp 5), none⟩),
  (1, ⟨(some 4), .mv (.tmp 23), none⟩)]
abbrev f141r7 : Pc := .reg f141o7 [4] []
abbrev f141b : Pc := (.seq f141r0 (.seq f141r1 (.seq (.seq f141r2 (.block 0 (.loop f141l0))) (.seq f141r7 .ret))))
abbrev f141 : Pfn := ⟨2, 24, [.tmp 4], f141b⟩
def f141K : Array (List Nat) := #[[0, 1], [0, 1, 5], [1, 5, 8, 9, 10], [1, 5, 8, 9, 10, 11], [1, 5, 6, 7, 8, 9, 10], [1, 5, 8, 9, 10], [1, 5, 8, 9, 10], [4]]
def f141H : Array (List Nat) := #[[4, 5, 21], [], [], [], [], [], [], []]
def f141A : Ann := ⟨fun r => f141K.getD r [], fun r => f141H.getD r [], fun r i => ([] : List (Nat × Nat)).contains (r, i)⟩
theorem f141C : compF Go.Proofs.Tryz.prog f141A 141 = some f141 := by kernel_rfl

/-- switchboard/vec.Add$1 -/
abbrev f142o0 : List (Nat × Pop) := [
  (0, ⟨(some 5), .mv (.c (.t (.i .i64 0))), none⟩)]
abbrev f142r0 : Pc := .reg f142o0 [0, 1, 2] []
abbrev f142o1 : List (Nat × Pop) := [
  (0, ⟨(some 6), .mv (.tmp 1), none⟩),
  (1, ⟨(some 7), .load false 1 (.tmp 2), none⟩),
  (2, ⟨(some 8), .mv (.tmp 0), none⟩),
  (3, ⟨(some 9), .ixS 1 (.tmp 7) (.tmp 8), none⟩),
  (4, ⟨(some 10), .load false 1 (.tmp 9), none⟩),
  (5, ⟨(some 11), .call 143 [(.tmp 6), (.tmp 10)], none⟩),
  (6, ⟨(some 5), .mv (.tmp 11), none⟩)]
abbrev f142r1 : Pc := .reg f142o1 [5] []
abbrev f142b : Pc := (.seq f142r0 (.seq f142r1 .ret))
abbrev f142 : Pfn := ⟨3, 12, [.tmp 5], f142b⟩
def f142K : Array (List Nat) := #[[0, 1, 2], [5]]
def f142H : Array (List Nat) := #[[], []]
def f142A : Ann := ⟨fun r => f142K.getD r [], fun r => f142H.getD r [], fun r i => ([] : List (Nat × Nat)).contains (r, i)⟩
theorem f142C : compF Go.Proofs.Tryz.prog f142A 142 = some f142 := by kernel_rfl

/-- switchboard/fix.Add -/
abbrev f143o0 : List (Nat × Pop) := [
  (0, ⟨(some 4), .mv (.c (.t (.i .i64 0))), none⟩)]
abbrev f143r0 : Pc := .reg f143o0 [0, 1] []
abbrev f143o1 : List (Nat × Pop) := [
  (0, ⟨(some 5), .mv (.tmp 0), none⟩),
  (1, ⟨(some 6), .call 71 [(.tmp 5)], none⟩),
  (2, ⟨(some 7), .mv (.tmp 1), none⟩),
  (3, ⟨(some 8), .call 71 [(.tmp 7)], none⟩),
  (4, ⟨(some 9), .bin .add (.tmp 6) (.tmp 8), none⟩),
  (5, ⟨(some 10), .call 71 [(.tmp 9)], none⟩),
  (6, ⟨(some 4), .mv (.tmp 10), none⟩)]
abbrev f143r1 : Pc := .reg f143o1 [4] []
abbrev f143b : Pc := (.seq f143r0 (.seq f143r1 .ret))
abbrev f143 : Pfn := ⟨2, 11, [.tmp 4], f143b⟩
def f143K : Array (List Nat) := #[[0, 1], [4]]
def f143H : Array (List Nat) := #[[], []]
def f143A : Ann := ⟨fun r => f143K.getD r [], fun r => f143H.getD r [], fun r i => ([] : List (Nat × Nat)).contains (r, i)⟩
theorem f143C : compF Go.Proofs.Tryz.prog f143A 143 = some f143 := by kernel_rfl

/-- switchboard/vec.Scale$1 -/
abbrev f144o0 : List (Nat × Pop) := [
  (0, ⟨(some 5), .mv (.c (.t (.i .i64 0))), none⟩)]
abbrev f144r0 : Pc := .reg f144o0 [1, 2] []
abbrev f144o1 : List (Nat × Pop) := [
  (0, ⟨(some 6), .mv (.tmp 1), none⟩),
  (1, ⟨(some 7), .load false 1 (.tmp 2), none⟩),
  (2, ⟨(some 8), .call 145 [(.tmp 6), (.tmp 7)], none⟩),
  (3, ⟨(some 5), .mv (.tmp 8), none⟩)]
abbrev f144r1 : Pc := .reg f144o1 [5] []
abbrev f144b : Pc := (.seq f144r0 (.seq f144r1 .ret))
abbrev f144 : Pfn := ⟨3, 9, [.tmp 5], f144b⟩
def f144K : Array (List Nat) := #[[1, 2], [5]]
def f144H : Array (List Nat) := #[[], []]
def f144A : Ann := ⟨fun r => f144K.getD r [], fun r => f144H.getD r [], fun r i => ([] : List (Nat × Nat)).contains (r, i)⟩
theorem f144C : compF Go.Proofs.Tryz.prog f144A 144 = some f144 := by kernel_rfl

/-- switchboard/fix.Mul -/
abbrev f145o0 : List (Nat × Pop) := [
  (0, ⟨(some 4), .mv (.c (.t (.i .i64 0))), none⟩)]
abbrev f145r0 : Pc := .reg f145o0 [0, 1] []
abbrev f145o1 : List (Nat × Pop) := [
  (0, ⟨(some 5), .mv (.tmp 0), none⟩),
  (1, ⟨(some 6), .call 71 [(.tmp 5)], none⟩),
  (2, ⟨(some 7), .mv (.tmp 1), none⟩),
  (3, ⟨(some 8), .call 71 [(.tmp 7)], none⟩),
  (4, ⟨(some 9), .bin .mul (.tmp 6) (.tmp 8), none⟩),
  (5, ⟨(some 10), .bin .quo (.tmp 9) (.c (.t (.i .i64 65536))), none⟩),
  (6, ⟨(some 11), .call 71 [(.tmp 10)], none⟩),
  (7, ⟨(some 4), .mv (.tmp 11), none⟩)]
abbrev f145r1 : Pc := .reg f145o1 [4] []
abbrev f145b : Pc := (.seq f145r0 (.seq f145r1 .ret))
abbrev f145 : Pfn := ⟨2, 12, [.tmp 4], f145b⟩
def f145K : Array (List Nat) := #[[0, 1], [4]]
def f145H : Array (List Nat) := #[[], []]
def f145A : Ann := ⟨fun r => f145K.getD r [], fun r => f145H.getD r [], fun r i => ([] : List (Nat × Nat)).contains (r, i)⟩
theorem f145C : compF Go.Proofs.Tryz.prog f145A 145 = some f145 := by kernel_rfl

/-- switchboard/vec.Dot -/
abbrev f146o0 : List (Nat × Pop) := [
  (0, ⟨(some 4), .mv (.c (.t (.i .i64 0))), none⟩),
  (1, ⟨(some 5), .mv (.c (.t (.b false))), none⟩)]
abbrev f146r0 : Pc := .reg f146o0 [0, 1] []
abbrev f146o1 : List (Nat × Pop) := [
  (0, ⟨(some 9), .mv (.tmp 0), none⟩),
  (1, ⟨(some 10), .lenL (.tmp 9), none⟩),
  (2, ⟨(some 11), .mv (.tmp 1), none⟩),
  (3, ⟨(some 12), .lenL (.tmp 11), none⟩),
  (4, ⟨(some 13), .bin .neq (.tmp 10) (.tmp 12), none⟩)]
abbrev f146r1 : Pc := .reg f146o1 [0, 1, 13] []
abbrev f146o2 : List (Nat × Pop) := [
  (0, ⟨(some 4), .mv (.c (.t (.i .i64 0))), none⟩),
  (1, ⟨(some 5), .mv (.c (.t (.b false))), none⟩)]
abbrev f146r2 : Pc := .reg f146o2 [4, 5] []
abbrev f146o3 : List (Nat × Pop) := [
  (0, ⟨(some 6), .mv (.c (.t (.i .i64 0))), none⟩)]
abbrev f146r3 : Pc := .reg f146o3 [0, 1, 6] []
abbrev f146o4 : List (Nat × Pop) := [
  (0, ⟨(some 14), .mv (.tmp 0), none⟩),
  (1, ⟨(some 15), .lenL (.tmp 14), none⟩),
  (2, ⟨(some 16), .mv (.c (.t (.i .i64 0))), none⟩)]
abbrev f146r4 : Pc := .reg f146o4 [1, 6, 14, 15, 16] []
abbrev f146o5 : List (Nat × Pop) := [
  (0, ⟨(some 17), .bin .lss (.tmp 16) (.tmp 15), none⟩)]
abbrev f146r5 : Pc := .reg f146o5 [1, 6, 14, 15, 16, 17] []
abbrev f146o6 : List (Nat × Pop) := [
  (0, ⟨(some 18), .mv (.tmp 16), none⟩),
  (1, ⟨(some 19), .ixS 1 (.tmp 14) (.tmp 16), none⟩),
  (2, ⟨(some 20), .load false 1 (.tmp 19), none⟩),
  (3, ⟨(some 7), .mv (.tmp 18), none⟩),
  (4, ⟨(some 8), .mv (.tmp 20), none⟩)]
abbrev f146r6 : Pc := .reg f146o6 [1, 6, 7, 8, 14, 15, 16] []
abbrev f146o7 : List (Nat × Pop) := [
  (0, ⟨(some 21), .mv (.tmp 6), none⟩),
  (1, ⟨(some 22), .mv (.tmp 8), none⟩),
  (2, ⟨(some 23), .mv (.tmp 1), none⟩),
  (3, ⟨(some 24), .mv (.tmp 7), none⟩),
  (4, ⟨(some 25), .ixS 1 (.tmp 23) (.tmp 24), none⟩),
  (5, ⟨(some 26), .load false 1 (.tmp 25), none⟩),
  (6, ⟨(some 27), .call 145 [(.tmp 22), (.tmp 26)], none⟩),
  (7, ⟨(some 28), .call 143 [(.tmp 21), (.tmp 27)], none⟩),
  (8, ⟨(some 6), .mv (.tmp 28), none⟩)]
abbrev f146r7 : Pc := .reg f146o7 [1, 6, 14, 15, 16] []
abbrev f146o8 : List (Nat × Pop) := [
  (0, ⟨(some 29), .bin .add (.tmp 16) (.c (.t (.i .i64 1))), none⟩),
  (1, ⟨(some 16), .mv (.tmp 29), none⟩)]
abbrev f146r8 : Pc := .reg f146o8 [1, 6, 14, 15, 16] []
def f146l0 : Pc := (.seq f146r5 (.seq (.cond (.tmp 17) .skip (.exit 0)) (.seq (.block 1 (.seq f146r6 f146r7)) f146r8)))
theorem f146l0e (C : Cfg) (s : St) : evL C f146l0 s = evL C (.seq f146r5 (.seq (.cond (.tmp 17) .skip (.exit 0)) (.seq (.block 1 (.seq f146r6 f146r7)) f146r8))) s := rfl
abbrev f146o9 : List (Nat × Pop) := [
  (0, ⟨(some 30), .mv (.tmp 6), none⟩),
  (1, ⟨(some 4), .mv (.tmp 30), none⟩),
  (2, ⟨(some 5), .mv (.c (.t (.b true))), none⟩)]
abbrev f146r9 : Pc := .reg f146o9 [4, 5] []
abbrev f146b : Pc := (.seq f146r0 (.seq (.seq f146r1 (.cond (.tmp 13) (.seq f146r2 .ret) .skip)) (.seq f146r3 (.seq (.seq f146r4 (.block 0 (.loop f146l0))) (.seq f146r9 .ret)))))
abbrev f146 : Pfn := ⟨2, 31, [.tmp 4, .tmp 5], f146b⟩
def f146K : Array (List Nat) := #[[0, 1], [0, 1, 13], [4, 5], [0, 1, 6], [1, 6, 14, 15, 16], [1, 6, 14, 15, 16, 17], [1, 6, 7, 8, 14, 15, 16], [1, 6, 14, 15, 16], [1, 6, 14, 15, 16], [4, 5]]
def f146H : Array (List Nat) := #[[], [], [], [], [], [], [], [], [], []]
def f146A : Ann := ⟨fun r => f146K.getD r [], fun r => f146H.getD r [], fun r i => ([] : List (Nat × Nat)).contains (r, i)⟩
theorem f146C : compF Go.Proofs.Tryz.prog f146A 146 = some f146 := by kernel_rfl

/-- switchboard/vec.Relu$1 -/
abbrev f147o0 : List (Nat × Pop) := [
  (0, ⟨(some 4), .mv (.c (.t (.i .i64 0))), none⟩)]
abbrev f147r0 : Pc := .reg f147o0 [1] []
abbrev f147o1 : List (Nat × Pop) := [
  (0, ⟨(some 5), .mv (.tmp 1), none⟩),
  (1, ⟨(some 6), .call 71 [(.tmp 5)], none⟩),
  (2, ⟨(some 7), .mm true [(.tmp 6), (.c (.t (.i .i64 0)))], none⟩),
  (3, ⟨(some 4), .mv (.tmp 7), none⟩)]
abbrev f147r1 : Pc := .reg f147o1 [4] []
abbrev f147b : Pc := (.seq f147r0 (.seq f147r1 .ret))
abbrev f147 : Pfn := ⟨2, 8, [.tmp 4], f147b⟩
def f147K : Array (List Nat) := #[[1], [4]]
def f147H : Array (List Nat) := #[[], []]
def f147A : Ann := ⟨fun r => f147K.getD r [], fun r => f147H.getD r [], fun r i => ([] : List (Nat × Nat)).contains (r, i)⟩
theorem f147C : compF Go.Proofs.Tryz.prog f147A 147 = some f147 := by kernel_rfl

/-- switchboard/top.Best -/
abbrev f154o0 : List (Nat × Pop) := [
  (0, ⟨(some 2), .mv (.c (.t (.i .i64 0))), none⟩)]
abbrev f154r0 : Pc := .reg f154o0 [0] []
abbrev f154o1 : List (Nat × Pop) := [
  (0, ⟨(some 3), .mv (.tmp 0), none⟩),
  (1, ⟨(some 4), .call 155 [(.tmp 3), (.c (.t (.i .i64 (-1))))], none⟩),
  (2, ⟨(some 2), .mv (.tmp 4), none⟩)]
abbrev f154r1 : Pc := .reg f154o1 [2] []
abbrev f154b : Pc := (.seq f154r0 (.seq f154r1 .ret))
abbrev f154 : Pfn := ⟨1, 5, [.tmp 2], f154b⟩
def f154K : Array (List Nat) := #[[0], [2]]
def f154H : Array (List Nat) := #[[], []]
def f154A : Ann := ⟨fun r => f154K.getD r [], fun r => f154H.getD r [], fun r i => ([] : List (Nat × Nat)).contains (r, i)⟩
theorem f154C : compF Go.Proofs.Tryz.prog f154A 154 = some f154 := by kernel_rfl

/-- switchboard/top.beside -/
abbrev f155o0 : List (Nat × Pop) := [
  (0, ⟨(some 4), .mv (.c (.t (.i .i64 0))), none⟩)]
abbrev f155r0 : Pc := .reg f155o0 [0, 1] []
abbrev f155o1 : List (Nat × Pop) := [
  (0, ⟨(some 5), .mv (.c (.t (.i .i64 (-1)))), none⟩)]
abbrev f155r1 : Pc := .reg f155o1 [0, 1, 5] []
abbrev f155o2 : List (Nat × Pop) := [
  (0, ⟨(some 8), .mv (.tmp 0), none⟩),
  (1, ⟨(some 9), .lenL (.tmp 8), none⟩),
  (2, ⟨(some 10), .mv (.c (.t (.i .i64 0))), none⟩)]
abbrev f155r2 : Pc := .reg f155o2 [0, 1, 5, 8, 9, 10] []
abbrev f155o3 : List (Nat × Pop) := [
  (0, ⟨(some 11), .bin .lss (.tmp 10) (.tmp 9), none⟩)]
abbrev f155r3 : Pc := .reg f155o3 [0, 1, 5, 8, 9, 10, 11] []
abbrev f155o4 : List (Nat × Pop) := [
  (0, ⟨(some 12), .mv (.tmp 10), none⟩),
  (1, ⟨(some 13), .ixS 1 (.tmp 8) (.tmp 10), none⟩),
  (2, ⟨(some 14), .load false 1 (.tmp 13), none⟩),
  (3, ⟨(some 6), .mv (.tmp 12), none⟩),
  (4, ⟨(some 7), .mv (.tmp 14), none⟩)]
abbrev f155r4 : Pc := .reg f155o4 [0, 1, 5, 6, 7, 8, 9, 10] []
abbrev f155o5 : List (Nat × Pop) := [
  (0, ⟨(some 15), .mv (.tmp 6), none⟩),
  (1, ⟨(some 16), .mv (.tmp 1), none⟩),
  (2, ⟨(some 17), .bin .neq (.tmp 15) (.tmp 16), none⟩),
  (3, ⟨(some 18), .mv (.tmp 17), none⟩),
  (4, ⟨(some 19), .mv (.tmp 5), (some (18, true))⟩),
  (5, ⟨(some 20), .bin .lss (.tmp 19) (.c (.t (.i .i64 0))), (some (18, true))⟩),
  (6, ⟨(some 21), .mv (.tmp 20), (some (18, true))⟩),
  (7, ⟨(some 22), .mv (.tmp 7), (some (21, false))⟩),
  (8, ⟨(some 23), .mv (.tmp 0), (some (21, false))⟩),
  (9, ⟨(some 24), .mv (.tmp 5), (some (21, false))⟩),
  (10, ⟨(some 25), .ixS 1 (.tmp 23) (.tmp 24), (some (21, false))⟩),
  (11, ⟨(some 26), .load false 1 (.tmp 25), (some (21, false))⟩),
  (12, ⟨(some 27), .bin .gtr (.tmp 22) (.tmp 26), (some (21, false))⟩),
  (13, ⟨(some 28), .pick (.tmp 21) (.c (.t (.b true))) (.tmp 27), (some (18, true))⟩),
  (14, ⟨(some 29), .pick (.tmp 18) (.tmp 28) (.c (.t (.b false))), none⟩)]
abbrev f155r5 : Pc := .reg f155o5 [0, 1, 5, 6, 8, 9, 10, 29] []
abbrev f155o6 : List (Nat × Pop) := [
  (0, ⟨(some 30), .mv (.tmp 6), none⟩),
  (1, ⟨(some 5), .mv (.tmp 30), none⟩)]
abbrev f155r6 : Pc := .reg f155o6 [0, 1, 5, 8, 9, 10] []
abbrev f155o7 : List (Nat × Pop) := [
  (0, ⟨(some 31), .bin .add (.tmp 10) (.c (.t (.i .i64 1))), none⟩),
  (1, ⟨(some 10), .mv (.tmp 31), none⟩)]
abbrev f155r7 : Pc := .reg f155o7 [0, 1, 5, 8, 9, 10] []
def f155l0 : Pc := (.seq f155r3 (.seq (.cond (.tmp 11) .skip (.exit 0)) (.seq (.block 1 (.seq f155r4 (.seq f155r5 (.cond (.tmp 29) f155r6 .skip)))) f155r7)))
theorem f155l0e (C : Cfg) (s : St) : evL C f155l0 s = evL C (.seq f155r3 (.seq (.cond (.tmp 11) .skip (.exit 0)) (.seq (.block 1 (.seq f155r4 (.seq f155r5 (.cond (.tmp 29) f155r6 .skip)))) f155r7))) s := rfl
abbrev f155o8 : List (Nat × Pop) := [
  (0, ⟨(some 32), .mv (.tmp 5), none⟩),
  (1, ⟨(some 4), .mv (.tmp 32), none⟩)]
abbrev f155r8 : Pc := .reg f155o8 [4] []
abbrev f155b : Pc := (.seq f155r0 (.seq f155r1 (.seq (.seq f155r2 (.block 0 (.loop f155l0))) (.seq f155r8 .ret))))
abbrev f155 : Pfn := ⟨2, 33, [.tmp 4], f155b⟩
def f155K : Array (List Nat) := #[[0, 1], [0, 1, 5], [0, 1, 5, 8, 9, 10], [0, 1, 5, 8, 9, 10, 11], [0, 1, 5, 6, 7, 8, 9, 10], [0, 1, 5, 6, 8, 9, 10, 29], [0, 1, 5, 8, 9, 10], [0, 1, 5, 8, 9, 10], [4]]
def f155H : Array (List Nat) := #[[], [], [], [], [], [], [], [], []]
def f155A : Ann := ⟨fun r => f155K.getD r [], fun r => f155H.getD r [], fun r i => ([] : List (Nat × Nat)).contains (r, i)⟩
theorem f155C : compF Go.Proofs.Tryz.prog f155A 155 = some f155 := by kernel_rfl


end Go.Proofs.YtbocnaoihepjfaaGreat.Pv
