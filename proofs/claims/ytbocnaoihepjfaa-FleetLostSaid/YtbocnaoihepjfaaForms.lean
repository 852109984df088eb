/- The functions' forms, as the pure evaluator takes them; each is what the program's code gives (kernel_rfl). -/
import Derived.Test.YtbocnaoihepjfaaPevA
import Derived.Test.YtbocnaoihepjfaaPevC
import Derived.Test.YtbocnaoihepjfaaProg
import Derived.KernelRfl
namespace Go.Proofs.Ytbocnaoihepjfaa.Pv
open Go Go.Pev
/-- switchboard/switchboardlaw19.FleetLost -/
abbrev f3o0 : List (Nat × Pop) := [
  (0, ⟨(some 3), .box 24 2 (.tmp 0), none⟩),
  (1, ⟨(some 4), .box 27 2 (.tmp 1), none⟩),
  (2, ⟨(some 6), .mv (.c (.t (.b false))), none⟩)]
abbrev f3r0 : Pc := .reg f3o0 [2, 3, 4] []
abbrev f3o1 : List (Nat × Pop) := [
  (0, ⟨(some 15), .load true 2 (.tmp 3), none⟩),
  (1, ⟨(some 16), .call 4 [(.tmp 15)], none⟩),
  (2, ⟨(some 17), .un .not (.tmp 16), none⟩),
  (3, ⟨(some 18), .mv (.tmp 17), none⟩),
  (4, ⟨(some 19), .fad 1 (.tmp 4), (some (18, false))⟩),
  (5, ⟨(some 20), .load false 1 (.tmp 19), (some (18, false))⟩),
  (6, ⟨(some 21), .call 5 [(.tmp 20)], (some (18, false))⟩),
  (7, ⟨(some 22), .un .not (.tmp 21), (some (18, false))⟩),
  (8, ⟨(some 23), .pick (.tmp 18) (.c (.t (.b true))) (.tmp 22), none⟩),
  (9, ⟨(some 24), .mv (.tmp 23), none⟩),
  (10, ⟨(some 25), .mv (.tmp 2), (some (24, false))⟩),
  (11, ⟨(some 26), .call 5 [(.tmp 25)], (some (24, false))⟩),
  (12, ⟨(some 27), .un .not (.tmp 26), (some (24, false))⟩),
  (13, ⟨(some 28), .pick (.tmp 24) (.c (.t (.b true))) (.tmp 27), none⟩),
  (14, ⟨(some 29), .mv (.tmp 28), none⟩),
  (15, ⟨(some 30), .load true 2 (.tmp 3), (some (29, false))⟩),
  (16, ⟨(some 31), .load true 2 (.tmp 4), (some (29, false))⟩),
  (17, ⟨(some 32), .mv (.tmp 2), (some (29, false))⟩),
  (18, ⟨(some 33), .call 6 [(.tmp 30), (.tmp 31), (.tmp 32)], (some (29, false))⟩),
  (19, ⟨(some 34), .un .not (.tmp 33), (some (29, false))⟩),
  (20, ⟨(some 35), .pick (.tmp 29) (.c (.t (.b true))) (.tmp 34), none⟩)]
abbrev f3r1 : Pc := .reg f3o1 [2, 3, 4, 35] []
abbrev f3o2 : List (Nat × Pop) := [
  (0, ⟨(some 36), .call 7 [], none⟩),
  (1, ⟨(some 6), .mv (.tmp 36), none⟩)]
abbrev f3r2 : Pc := .reg f3o2 [6] []
abbrev f3o3 : List (Nat × Pop) := [
  (0, ⟨(some 38), .load true 2 (.tmp 3), none⟩),
  (1, ⟨(some 39), .load true 2 (.tmp 4), none⟩),
  (2, ⟨(some 40), .mv (.tmp 2), none⟩),
  (3, ⟨(some 41), .call 8 [(.tmp 38), (.tmp 39), (.tmp 40)], none⟩),
  (4, ⟨(some 37), .mv (.tmp 41), none⟩),
  (5, ⟨(some 42), .ext 0 (.tmp 37), none⟩),
  (6, ⟨(some 43), .ext 1 (.tmp 37), none⟩),
  (7, ⟨(some 7), .mv (.tmp 42), none⟩),
  (8, ⟨(some 8), .mv (.tmp 43), none⟩)]
abbrev f3r3 : Pc := .reg f3o3 [7] []
abbrev f3o4 : List (Nat × Pop) := [
  (0, ⟨(some 44), .mv (.tmp 7), none⟩),
  (1, ⟨(some 45), .isnilP false (.tmp 44), none⟩)]
abbrev f3r4 : Pc := .reg f3o4 [7, 45] []
abbrev f3o5 : List (Nat × Pop) := [
  (0, ⟨(some 6), .mv (.c (.t (.b false))), none⟩)]
abbrev f3r5 : Pc := .reg f3o5 [6] []
abbrev f3o6 : List (Nat × Pop) := [
  (0, ⟨(some 46), .mv (.tmp 7), none⟩),
  (1, ⟨(some 47), .call 9 [(.tmp 46)], none⟩),
  (2, ⟨(some 9), .mv (.tmp 47), none⟩)]
abbrev f3r6 : Pc := .reg f3o6 [7, 9] []
abbrev f3o7 : List (Nat × Pop) := [
  (0, ⟨(some 48), .mv (.tmp 9), none⟩),
  (1, ⟨(some 49), .lenL (.tmp 48), none⟩),
  (2, ⟨(some 50), .mv (.c (.t (.i .i64 0))), none⟩)]
abbrev f3r7 : Pc := .reg f3o7 [7, 9, 49, 50] []
abbrev f3o8 : List (Nat × Pop) := [
  (0, ⟨(some 51), .bin .lss (.tmp 50) (.tmp 49), none⟩)]
abbrev f3r8 : Pc := .reg f3o8 [7, 9, 49, 50, 51] []
abbrev f3o9 : List (Nat × Pop) := [
  (0, ⟨(some 52), .mv (.tmp 7), none⟩),
  (1, ⟨(some 53), .call 10 [(.tmp 52), (.c (.t (.i .i64 0)))], none⟩),
  (2, ⟨(some 54), .bin .neq (.tmp 53) (.c (.t (.i .i64 0))), none⟩)]
abbrev f3r9 : Pc := .reg f3o9 [7, 9, 49, 50, 54] []
abbrev f3o10 : List (Nat × Pop) := [
  (0, ⟨(some 6), .mv (.c (.t (.b false))), none⟩)]
abbrev f3r10 : Pc := .reg f3o10 [6] []
abbrev f3o11 : List (Nat × Pop) := [
  (0, ⟨(some 55), .bin .add (.tmp 50) (.c (.t (.i .i64 1))), none⟩),
  (1, ⟨(some 50), .mv (.tmp 55), none⟩)]
abbrev f3r11 : Pc := .reg f3o11 [7, 9, 49, 50] []
def f3l0 : Pc := (.seq f3r8 (.seq (.cond (.tmp 51) .skip (.exit 0)) (.seq (.block 1 (.seq f3r9 (.cond (.tmp 54) (.seq f3r10 .ret) .skip))) f3r11)))
theorem f3l0e (C : Cfg) (s : St) : evL C f3l0 s = evL C (.seq f3r8 (.seq (.cond (.tmp 51) .skip (.exit 0)) (.seq (.block 1 (.seq f3r9 (.cond (.tmp 54) (.seq f3r10 .ret) .skip))) f3r11))) s := rfl
abbrev f3o12 : List (Nat × Pop) := [
  (0, ⟨(some 57), .mv (.tmp 7), none⟩),
  (1, ⟨(some 58), .call 11 [(.tmp 57)], none⟩),
  (2, ⟨(some 56), .mv (.tmp 58), none⟩),
  (3, ⟨(some 59), .ext 0 (.tmp 56), none⟩),
  (4, ⟨(some 60), .ext 1 (.tmp 56), none⟩),
  (5, ⟨(some 10), .mv (.tmp 59), none⟩),
  (6, ⟨(some 11), .mv (.tmp 60), none⟩)]
abbrev f3r12 : Pc := .reg f3o12 [7, 9, 11] []
abbrev f3o13 : List (Nat × Pop) := [
  (0, ⟨(some 61), .mv (.tmp 7), none⟩),
  (1, ⟨(some 62), .call 9 [(.tmp 61)], none⟩),
  (2, ⟨(some 63), .lenL (.tmp 62), none⟩),
  (3, ⟨(some 12), .mv (.tmp 63), none⟩)]
abbrev f3r13 : Pc := .reg f3o13 [7, 9, 11, 12] []
abbrev f3o14 : List (Nat × Pop) := [
  (0, ⟨(some 64), .mv (.tmp 7), none⟩),
  (1, ⟨(some 65), .call 12 [(.tmp 64)], none⟩)]
abbrev f3r14 : Pc := .reg f3o14 [7, 9, 11, 12] []
abbrev f3o15 : List (Nat × Pop) := [
  (0, ⟨(some 66), .mv (.tmp 7), none⟩),
  (1, ⟨(some 67), .call 9 [(.tmp 66)], none⟩),
  (2, ⟨(some 13), .mv (.tmp 67), none⟩)]
abbrev f3r15 : Pc := .reg f3o15 [7, 9, 11, 12, 13] []
abbrev f3o16 : List (Nat × Pop) := [
  (0, ⟨(some 68), .mv (.tmp 11), none⟩),
  (1, ⟨(some 69), .mv (.tmp 68), none⟩),
  (2, ⟨(some 70), .mv (.tmp 12), (some (69, false))⟩),
  (3, ⟨(some 71), .bin .neq (.tmp 70) (.c (.t (.i .i64 0))), (some (69, false))⟩),
  (4, ⟨(some 72), .pick (.tmp 69) (.c (.t (.b true))) (.tmp 71), none⟩),
  (5, ⟨(some 73), .mv (.tmp 72), none⟩),
  (6, ⟨(some 74), .mv (.tmp 7), (some (73, false))⟩),
  (7, ⟨(some 75), .call 13 [(.tmp 74)], (some (73, false))⟩),
  (8, ⟨(some 76), .bin .neq (.tmp 75) (.c (.t (.i .i64 0))), (some (73, false))⟩),
  (9, ⟨(some 77), .pick (.tmp 73) (.c (.t (.b true))) (.tmp 76), none⟩),
  (10, ⟨(some 78), .mv (.tmp 77), none⟩),
  (11, ⟨(some 79), .mv (.tmp 13), (some (78, false))⟩),
  (12, ⟨(some 80), .lenL (.tmp 79), (some (78, false))⟩),
  (13, ⟨(some 81), .mv (.tmp 9), (some (78, false))⟩),
  (14, ⟨(some 82), .lenL (.tmp 81), (some (78, false))⟩),
  (15, ⟨(some 83), .bin .neq (.tmp 80) (.tmp 82), (some (78, false))⟩),
  (16, ⟨(some 84), .pick (.tmp 78) (.c (.t (.b true))) (.tmp 83), none⟩),
  (17, ⟨(some 85), .mv (.tmp 84), none⟩),
  (18, ⟨(some 86), .mv (.tmp 7), (some (85, false))⟩),
  (19, ⟨(some 87), .mv (.tmp 9), (some (85, false))⟩),
  (20, ⟨(some 88), .lenL (.tmp 87), (some (85, false))⟩),
  (21, ⟨(some 89), .call 10 [(.tmp 86), (.tmp 88)], (some (85, false))⟩),
  (22, ⟨(some 90), .bin .neq (.tmp 89) (.c (.t (.i .i64 4))), (some (85, false))⟩),
  (23, ⟨(some 91), .pick (.tmp 85) (.c (.t (.b true))) (.tmp 90), none⟩)]
abbrev f3r16 : Pc := .reg f3o16 [9, 13, 91] []
abbrev f3o17 : List (Nat × Pop) := [
  (0, ⟨(some 6), .mv (.c (.t (.b false))), none⟩)]
abbrev f3r17 : Pc := .reg f3o17 [6] []
abbrev f3o18 : List (Nat × Pop) := [
  (0, ⟨(some 92), .mv (.tmp 13), none⟩),
  (1, ⟨(some 93), .lenL (.tmp 92), none⟩),
  (2, ⟨(some 94), .mv (.c (.t (.i .i64 0))), none⟩)]
abbrev f3r18 : Pc := .reg f3o18 [9, 13, 93, 94] []
abbrev f3o19 : List (Nat × Pop) := [
  (0, ⟨(some 95), .bin .lss (.tmp 94) (.tmp 93), none⟩)]
abbrev f3r19 : Pc := .reg f3o19 [9, 13, 93, 94, 95] []
abbrev f3o20 : List (Nat × Pop) := [
  (0, ⟨(some 96), .mv (.tmp 94), none⟩),
  (1, ⟨(some 14), .mv (.tmp 96), none⟩)]
abbrev f3r20 : Pc := .reg f3o20 [9, 13, 14, 93, 94] []
abbrev f3o21 : List (Nat × Pop) := [
  (0, ⟨(some 97), .mv (.tmp 13), none⟩),
  (1, ⟨(some 98), .mv (.tmp 14), none⟩),
  (2, ⟨(some 99), .ixS 1 (.tmp 97) (.tmp 98), none⟩),
  (3, ⟨(some 100), .load false 1 (.tmp 99), none⟩),
  (4, ⟨(some 101), .mv (.tmp 9), none⟩),
  (5, ⟨(some 102), .mv (.tmp 14), none⟩),
  (6, ⟨(some 103), .ixS 1 (.tmp 101) (.tmp 102), none⟩),
  (7, ⟨(some 104), .load false 1 (.tmp 103), none⟩),
  (8, ⟨(some 105), .bin .neq (.tmp 100) (.tmp 104), none⟩)]
abbrev f3r21 : Pc := .reg f3o21 [9, 13, 93, 94, 105] []
abbrev f3o22 : List (Nat × Pop) := [
  (0, ⟨(some 6), .mv (.c (.t (.b false))), none⟩)]
abbrev f3r22 : Pc := .reg f3o22 [6] []
abbrev f3o23 : List (Nat × Pop) := [
  (0, ⟨(some 106), .bin .add (.tmp 94) (.c (.t (.i .i64 1))), none⟩),
  (1, ⟨(some 94), .mv (.tmp 106), none⟩)]
abbrev f3r23 : Pc := .reg f3o23 [9, 13, 93, 94] []
def f3l1 : Pc := (.seq f3r19 (.seq (.cond (.tmp 95) .skip (.exit 2)) (.seq (.block 3 (.seq f3r20 (.seq f3r21 (.cond (.tmp 105) (.seq f3r22 .ret) .skip)))) f3r23)))
theorem f3l1e (C : Cfg) (s : St) : evL C f3l1 s = evL C (.seq f3r19 (.seq (.cond (.tmp 95) .skip (.exit 2)) (.seq (.block 3 (.seq f3r20 (.seq f3r21 (.cond (.tmp 105) (.seq f3r22 .ret) .skip)))) f3r23))) s := rfl
abbrev f3o24 : List (Nat × Pop) := [
  (0, ⟨(some 107), .call 7 [], none⟩),
  (1, ⟨(some 6), .mv (.tmp 107), none⟩)]
abbrev f3r24 : Pc := .reg f3o24 [6] []
abbrev f3b : Pc := (.seq f3r0 (.seq (.seq f3r1 (.cond (.tmp 35) (.seq f3r2 .ret) .skip)) (.seq f3r3 (.seq (.seq f3r4 (.cond (.tmp 45) (.seq f3r5 .ret) .skip)) (.seq f3r6 (.seq (.seq f3r7 (.block 0 (.loop f3l0))) (.seq f3r12 (.seq f3r13 (.seq f3r14 (.seq f3r15 (.seq (.seq f3r16 (.cond (.tmp 91) (.seq f3r17 .ret) .skip)) (.seq (.seq f3r18 (.block 2 (.loop f3l1))) (.seq f3r24 .ret)))))))))))))
abbrev f3 : Pfn := ⟨3, 108, [.tmp 6], f3b⟩
def f3K : Array (List Nat) := #[[2, 3, 4], [2, 3, 4, 35], [6], [7], [7, 45], [6], [7, 9], [7, 9, 49, 50], [7, 9, 49, 50, 51], [7, 9, 49, 50, 54], [6], [7, 9, 49, 50], [7, 9, 11], [7, 9, 11, 12], [7, 9, 11, 12], [7, 9, 11, 12, 13], [9, 13, 91], [6], [9, 13, 93, 94], [9, 13, 93, 94, 95], [9, 13, 14, 93, 94], [9, 13, 93, 94, 105], [6], [9, 13, 93, 94], [6]]
def f3H : Array (List Nat) := #[[], [], [], [], [], [], [], [], [], [], [], [], [], [], [], [], [], [], [], [], [], [], [], [], []]
def f3A : Ann := ⟨fun r => f3K.getD r [], fun r => f3H.getD r [], fun r i => ([] : List (Nat × Nat)).contains (r, i)⟩
theorem f3C : compF Go.Proofs.Try.prog f3A 3 = some f3 := by kernel_rfl

/-- switchboard/switchboardref15.Small -/
abbrev f4o0 : List (Nat × Pop) := [
  (0, ⟨(some 1), .box 24 2 (.tmp 0), none⟩),
  (1, ⟨(some 2), .mv (.c (.t (.b false))), none⟩)]
abbrev f4r0 : Pc := .reg f4o0 [1] []
abbrev f4o1 : List (Nat × Pop) := [
  (0, ⟨(some 7), .fad 1 (.tmp 1), none⟩),
  (1, ⟨(some 8), .load false 1 (.tmp 7), none⟩),
  (2, ⟨(some 9), .lenL (.tmp 8), none⟩),
  (3, ⟨(some 10), .bin .gtr (.tmp 9) (.c (.t (.i .i64 5))), none⟩)]
abbrev f4r1 : Pc := .reg f4o1 [1, 10] []
abbrev f4o2 : List (Nat × Pop) := [
  (0, ⟨(some 2), .mv (.c (.t (.b false))), none⟩)]
abbrev f4r2 : Pc := .reg f4o2 [2] [1]
abbrev f4o3 : List (Nat × Pop) := [
  (0, ⟨(some 11), .fad 1 (.tmp 1), none⟩),
  (1, ⟨(some 12), .load false 1 (.tmp 11), none⟩),
  (2, ⟨(some 13), .lenL (.tmp 12), none⟩),
  (3, ⟨(some 14), .mv (.c (.t (.i .i64 0))), none⟩)]
abbrev f4r3 : Pc := .reg f4o3 [12, 13, 14] [1]
abbrev f4o4 : List (Nat × Pop) := [
  (0, ⟨(some 15), .bin .lss (.tmp 14) (.tmp 13), none⟩)]
abbrev f4r4 : Pc := .reg f4o4 [12, 13, 14, 15] []
abbrev f4o5 : List (Nat × Pop) := [
  (0, ⟨(some 16), .ixS 3 (.tmp 12) (.tmp 14), none⟩),
  (1, ⟨(some 17), .load true 3 (.tmp 16), none⟩),
  (2, ⟨(some 4), .alloc 46 [.nl, .nl, (.t (.i .i64 0))], none⟩),
  (3, ⟨none, .store 3 (.tmp 4) (.tmp 17), none⟩)]
abbrev f4r5 : Pc := .reg f4o5 [4, 12, 13, 14] []
abbrev f4o6 : List (Nat × Pop) := [
  (0, ⟨(some 18), .fad 1 (.tmp 4), none⟩),
  (1, ⟨(some 19), .load false 1 (.tmp 18), none⟩),
  (2, ⟨(some 20), .lenL (.tmp 19), none⟩),
  (3, ⟨(some 21), .bin .gtr (.tmp 20) (.c (.t (.i .i64 9))), none⟩),
  (4, ⟨(some 22), .mv (.tmp 21), none⟩),
  (5, ⟨(some 23), .fad 0 (.tmp 4), (some (22, false))⟩),
  (6, ⟨(some 24), .load false 1 (.tmp 23), (some (22, false))⟩),
  (7, ⟨(some 25), .call 5 [(.tmp 24)], (some (22, false))⟩),
  (8, ⟨(some 26), .un .not (.tmp 25), (some (22, false))⟩),
  (9, ⟨(some 27), .pick (.tmp 22) (.c (.t (.b true))) (.tmp 26), none⟩)]
abbrev f4r6 : Pc := .reg f4o6 [4, 12, 13, 14, 27] []
abbrev f4o7 : List (Nat × Pop) := [
  (0, ⟨(some 2), .mv (.c (.t (.b false))), none⟩)]
abbrev f4r7 : Pc := .reg f4o7 [2] [4]
abbrev f4o8 : List (Nat × Pop) := [
  (0, ⟨(some 28), .fad 1 (.tmp 4), none⟩),
  (1, ⟨(some 29), .load false 1 (.tmp 28), none⟩),
  (2, ⟨(some 30), .lenL (.tmp 29), none⟩),
  (3, ⟨(some 31), .mv (.c (.t (.i .i64 0))), none⟩)]
abbrev f4r8 : Pc := .reg f4o8 [12, 13, 14, 29, 30, 31] [4]
abbrev f4o9 : List (Nat × Pop) := [
  (0, ⟨(some 32), .bin .lss (.tmp 31) (.tmp 30), none⟩)]
abbrev f4r9 : Pc := .reg f4o9 [12, 13, 14, 29, 30, 31, 32] []
abbrev f4o10 : List (Nat × Pop) := [
  (0, ⟨(some 33), .ixS 2 (.tmp 29) (.tmp 31), none⟩),
  (1, ⟨(some 34), .load true 2 (.tmp 33), none⟩),
  (2, ⟨(some 6), .alloc 48 [.nl, .nl], none⟩),
  (3, ⟨none, .store 2 (.tmp 6) (.tmp 34), none⟩)]
abbrev f4r10 : Pc := .reg f4o10 [6, 12, 13, 14, 29, 30, 31] []
abbrev f4o11 : List (Nat × Pop) := [
  (0, ⟨(some 35), .fad 0 (.tmp 6), none⟩),
  (1, ⟨(some 36), .load false 1 (.tmp 35), none⟩),
  (2, ⟨(some 37), .call 5 [(.tmp 36)], none⟩),
  (3, ⟨(some 38), .un .not (.tmp 37), none⟩),
  (4, ⟨(some 39), .mv (.tmp 38), none⟩),
  (5, ⟨(some 40), .fad 1 (.tmp 6), (some (39, false))⟩),
  (6, ⟨(some 41), .load false 1 (.tmp 40), (some (39, false))⟩),
  (7, ⟨(some 42), .call 5 [(.tmp 41)], (some (39, false))⟩),
  (8, ⟨(some 43), .un .not (.tmp 42), (some (39, false))⟩),
  (9, ⟨(some 44), .pick (.tmp 39) (.c (.t (.b true))) (.tmp 43), none⟩)]
abbrev f4r11 : Pc := .reg f4o11 [12, 13, 14, 29, 30, 31, 44] [6]
abbrev f4o12 : List (Nat × Pop) := [
  (0, ⟨(some 2), .mv (.c (.t (.b false))), none⟩)]
abbrev f4r12 : Pc := .reg f4o12 [2] []
abbrev f4o13 : List (Nat × Pop) := [
  (0, ⟨(some 45), .bin .add (.tmp 31) (.c (.t (.i .i64 1))), none⟩),
  (1, ⟨(some 31), .mv (.tmp 45), none⟩)]
abbrev f4r13 : Pc := .reg f4o13 [12, 13, 14, 29, 30, 31] []
def f4l0 : Pc := (.seq f4r9 (.seq (.cond (.tmp 32) .skip (.exit 2)) (.seq (.block 3 (.seq f4r10 (.seq f4r11 (.cond (.tmp 44) (.seq f4r12 .ret) .skip)))) f4r13)))
theorem f4l0e (C : Cfg) (s : St) : evL C f4l0 s = evL C (.seq f4r9 (.seq (.cond (.tmp 32) .skip (.exit 2)) (.seq (.block 3 (.seq f4r10 (.seq f4r11 (.cond (.tmp 44) (.seq f4r12 .ret) .skip)))) f4r13))) s := rfl
abbrev f4o14 : List (Nat × Pop) := [
  (0, ⟨(some 46), .bin .add (.tmp 14) (.c (.t (.i .i64 1))), none⟩),
  (1, ⟨(some 14), .mv (.tmp 46), none⟩)]
abbrev f4r14 : Pc := .reg f4o14 [12, 13, 14] []
def f4l1 : Pc := (.seq f4r4 (.seq (.cond (.tmp 15) .skip (.exit 0)) (.seq (.block 1 (.seq f4r5 (.seq (.seq f4r6 (.cond (.tmp 27) (.seq f4r7 .ret) .skip)) (.seq f4r8 (.block 2 (.loop f4l0)))))) f4r14)))
theorem f4l1e (C : Cfg) (s : St) : evL C f4l1 s = evL C (.seq f4r4 (.seq (.cond (.tmp 15) .skip (.exit 0)) (.seq (.block 1 (.seq f4r5 (.seq (.seq f4r6 (.cond (.tmp 27) (.seq f4r7 .ret) .skip)) (.seq f4r8 (.block 2 (.loop f4l0)))))) f4r14))) s := rfl
abbrev f4o15 : List (Nat × Pop) := [
  (0, ⟨(some 2), .mv (.c (.t (.b true))), none⟩)]
abbrev f4r15 : Pc := .reg f4o15 [2] []
abbrev f4b : Pc := (.seq f4r0 (.seq (.seq f4r1 (.cond (.tmp 10) (.seq f4r2 .ret) .skip)) (.seq (.seq f4r3 (.block 0 (.loop f4l1))) (.seq f4r15 .ret))))
abbrev f4 : Pfn := ⟨1, 47, [.tmp 2], f4b⟩
def f4K : Array (List Nat) := #[[1], [1, 10], [2], [12, 13, 14], [12, 13, 14, 15], [4, 12, 13, 14], [4, 12, 13, 14, 27], [2], [12, 13, 14, 29, 30, 31], [12, 13, 14, 29, 30, 31, 32], [6, 12, 13, 14, 29, 30, 31], [12, 13, 14, 29, 30, 31, 44], [2], [12, 13, 14, 29, 30, 31], [12, 13, 14], [2]]
def f4H : Array (List Nat) := #[[], [], [1], [1], [], [], [], [4], [4], [], [], [6], [], [], [], []]
def f4A : Ann := ⟨fun r => f4K.getD r [], fun r => f4H.getD r [], fun r i => ([] : List (Nat × Nat)).contains (r, i)⟩
theorem f4C : compF Go.Proofs.Try.prog f4A 4 = some f4 := by kernel_rfl

/-- switchboard/switchboardref03.Small -/
abbrev f5o0 : List (Nat × Pop) := [
  (0, ⟨(some 2), .mv (.c (.t (.b false))), none⟩)]
abbrev f5r0 : Pc := .reg f5o0 [0] []
abbrev f5o1 : List (Nat × Pop) := [
  (0, ⟨(some 3), .mv (.c (.t (.i .i64 0))), none⟩)]
abbrev f5r1 : Pc := .reg f5o1 [0, 3] []
abbrev f5o2 : List (Nat × Pop) := [
  (0, ⟨(some 4), .mv (.tmp 3), none⟩),
  (1, ⟨(some 5), .mv (.tmp 0), none⟩),
  (2, ⟨(some 6), .lenL (.tmp 5), none⟩),
  (3, ⟨(some 7), .bin .lss (.tmp 4) (.tmp 6), none⟩),
  (4, ⟨(some 8), .mv (.tmp 7), none⟩),
  (5, ⟨(some 9), .mv (.tmp 3), (some (8, true))⟩),
  (6, ⟨(some 10), .bin .lss (.tmp 9) (.c (.t (.i .i64 30))), (some (8, true))⟩),
  (7, ⟨(some 11), .pick (.tmp 8) (.tmp 10) (.c (.t (.b false))), none⟩)]
abbrev f5r2 : Pc := .reg f5o2 [0, 3, 11] []
abbrev f5o4 : List (Nat × Pop) := [
  (0, ⟨(some 14), .mv (.tmp 0), none⟩),
  (1, ⟨(some 15), .mv (.tmp 3), none⟩),
  (2, ⟨(some 16), .ixS 1 (.tmp 14) (.tmp 15), none⟩),
  (3, ⟨(some 17), .load false 1 (.tmp 16), none⟩),
  (4, ⟨(some 18), .lenL (.tmp 17), none⟩),
  (5, ⟨(some 19), .bin .gtr (.tmp 18) (.c (.t (.i .i64 30))), none⟩)]
abbrev f5r4 : Pc := .reg f5o4 [0, 3, 19] []
abbrev f5o5 : List (Nat × Pop) := [
  (0, ⟨(some 2), .mv (.c (.t (.b false))), none⟩)]
abbrev f5r5 : Pc := .reg f5o5 [2] []
abbrev f5o3 : List (Nat × Pop) := [
  (0, ⟨(some 12), .mv (.tmp 3), none⟩),
  (1, ⟨(some 13), .bin .add (.tmp 12) (.c (.t (.i .i64 1))), none⟩),
  (2, ⟨(some 3), .mv (.tmp 13), none⟩)]
abbrev f5r3 : Pc := .reg f5o3 [0, 3] []
def f5l0 : Pc := (.seq (.seq f5r2 (.cond (.tmp 11) .skip (.exit 0))) (.seq (.block 1 (.seq f5r4 (.cond (.tmp 19) (.seq f5r5 .ret) .skip))) f5r3))
theorem f5l0e (C : Cfg) (s : St) : evL C f5l0 s = evL C (.seq (.seq f5r2 (.cond (.tmp 11) .skip (.exit 0))) (.seq (.block 1 (.seq f5r4 (.cond (.tmp 19) (.seq f5r5 .ret) .skip))) f5r3)) s := rfl
abbrev f5o6 : List (Nat × Pop) := [
  (0, ⟨(some 20), .mv (.tmp 0), none⟩),
  (1, ⟨(some 21), .lenL (.tmp 20), none⟩),
  (2, ⟨(some 22), .bin .leq (.tmp 21) (.c (.t (.i .i64 30))), none⟩),
  (3, ⟨(some 2), .mv (.tmp 22), none⟩)]
abbrev f5r6 : Pc := .reg f5o6 [2] []
abbrev f5b : Pc := (.seq f5r0 (.seq (.seq f5r1 (.block 0 (.loop f5l0))) (.seq f5r6 .ret)))
abbrev f5 : Pfn := ⟨1, 23, [.tmp 2], f5b⟩
def f5K : Array (List Nat) := #[[0], [0, 3], [0, 3, 11], [0, 3], [0, 3, 19], [2], [2]]
def f5H : Array (List Nat) := #[[], [], [], [], [], [], []]
def f5A : Ann := ⟨fun r => f5K.getD r [], fun r => f5H.getD r [], fun r i => ([] : List (Nat × Nat)).contains (r, i)⟩
theorem f5C : compF Go.Proofs.Try.prog f5A 5 = some f5 := by kernel_rfl

/-- switchboard/switchboardref19.May -/
abbrev f6o0 : List (Nat × Pop) := [
  (0, ⟨(some 3), .box 24 2 (.tmp 0), none⟩),
  (1, ⟨(some 4), .box 31 2 (.tmp 1), none⟩),
  (2, ⟨(some 6), .mv (.c (.t (.b false))), none⟩)]
abbrev f6r0 : Pc := .reg f6o0 [2, 3, 4] []
abbrev f6o1 : List (Nat × Pop) := [
  (0, ⟨(some 9), .load true 2 (.tmp 3), none⟩),
  (1, ⟨(some 10), .call 14 [(.tmp 9)], none⟩),
  (2, ⟨(some 11), .un .not (.tmp 10), none⟩),
  (3, ⟨(some 12), .mv (.tmp 11), none⟩),
  (4, ⟨(some 13), .load true 2 (.tmp 3), (some (12, false))⟩),
  (5, ⟨(some 14), .mv (.tmp 2), (some (12, false))⟩),
  (6, ⟨(some 15), .call 15 [(.tmp 13), (.tmp 14)], (some (12, false))⟩),
  (7, ⟨(some 16), .un .not (.tmp 15), (some (12, false))⟩),
  (8, ⟨(some 17), .pick (.tmp 12) (.c (.t (.b true))) (.tmp 16), none⟩),
  (9, ⟨(some 18), .mv (.tmp 17), none⟩),
  (10, ⟨(some 19), .load true 2 (.tmp 4), (some (18, false))⟩),
  (11, ⟨(some 20), .call 16 [(.tmp 19)], (some (18, false))⟩),
  (12, ⟨(some 21), .un .not (.tmp 20), (some (18, false))⟩),
  (13, ⟨(some 22), .pick (.tmp 18) (.c (.t (.b true))) (.tmp 21), none⟩)]
abbrev f6r1 : Pc := .reg f6o1 [3, 4, 22] []
abbrev f6o2 : List (Nat × Pop) := [
  (0, ⟨(some 6), .mv (.c (.t (.b false))), none⟩)]
abbrev f6r2 : Pc := .reg f6o2 [6] [3, 4]
abbrev f6o3 : List (Nat × Pop) := [
  (0, ⟨(some 23), .fad 1 (.tmp 3), none⟩),
  (1, ⟨(some 24), .load false 1 (.tmp 23), none⟩),
  (2, ⟨(some 25), .lenL (.tmp 24), none⟩),
  (3, ⟨(some 26), .mv (.c (.t (.i .i64 0))), none⟩)]
abbrev f6r3 : Pc := .reg f6o3 [4, 24, 25, 26] [3]
abbrev f6o4 : List (Nat × Pop) := [
  (0, ⟨(some 27), .bin .lss (.tmp 26) (.tmp 25), none⟩)]
abbrev f6r4 : Pc := .reg f6o4 [4, 24, 25, 26, 27] []
abbrev f6o5 : List (Nat × Pop) := [
  (0, ⟨(some 28), .ixS 3 (.tmp 24) (.tmp 26), none⟩),
  (1, ⟨(some 29), .load true 3 (.tmp 28), none⟩),
  (2, ⟨(some 8), .alloc 46 [.nl, .nl, (.t (.i .i64 0))], none⟩),
  (3, ⟨none, .store 3 (.tmp 8) (.tmp 29), none⟩)]
abbrev f6r5 : Pc := .reg f6o5 [4, 8, 24, 25, 26] []
abbrev f6o6 : List (Nat × Pop) := [
  (0, ⟨(some 30), .fad 1 (.tmp 8), none⟩),
  (1, ⟨(some 31), .load false 1 (.tmp 30), none⟩),
  (2, ⟨(some 32), .lenL (.tmp 31), none⟩),
  (3, ⟨(some 33), .fad 1 (.tmp 4), none⟩),
  (4, ⟨(some 34), .load false 1 (.tmp 33), none⟩),
  (5, ⟨(some 35), .lenL (.tmp 34), none⟩),
  (6, ⟨(some 36), .bin .gtr (.tmp 32) (.tmp 35), none⟩)]
abbrev f6r6 : Pc := .reg f6o6 [4, 24, 25, 26, 36] [8]
abbrev f6o7 : List (Nat × Pop) := [
  (0, ⟨(some 6), .mv (.c (.t (.b false))), none⟩)]
abbrev f6r7 : Pc := .reg f6o7 [6] [4]
abbrev f6o8 : List (Nat × Pop) := [
  (0, ⟨(some 37), .bin .add (.tmp 26) (.c (.t (.i .i64 1))), none⟩),
  (1, ⟨(some 26), .mv (.tmp 37), none⟩)]
abbrev f6r8 : Pc := .reg f6o8 [4, 24, 25, 26] []
def f6l0 : Pc := (.seq f6r4 (.seq (.cond (.tmp 27) .skip (.exit 0)) (.seq (.block 1 (.seq f6r5 (.seq f6r6 (.cond (.tmp 36) (.seq f6r7 .ret) .skip)))) f6r8)))
theorem f6l0e (C : Cfg) (s : St) : evL C f6l0 s = evL C (.seq f6r4 (.seq (.cond (.tmp 27) .skip (.exit 0)) (.seq (.block 1 (.seq f6r5 (.seq f6r6 (.cond (.tmp 36) (.seq f6r7 .ret) .skip)))) f6r8))) s := rfl
abbrev f6o9 : List (Nat × Pop) := [
  (0, ⟨(some 6), .mv (.c (.t (.b true))), none⟩)]
abbrev f6r9 : Pc := .reg f6o9 [6] [4]
abbrev f6b : Pc := (.seq f6r0 (.seq (.seq f6r1 (.cond (.tmp 22) (.seq f6r2 .ret) .skip)) (.seq (.seq f6r3 (.block 0 (.loop f6l0))) (.seq f6r9 .ret))))
abbrev f6 : Pfn := ⟨3, 38, [.tmp 6], f6b⟩
def f6K : Array (List Nat) := #[[2, 3, 4], [3, 4, 22], [6], [4, 24, 25, 26], [4, 24, 25, 26, 27], [4, 8, 24, 25, 26], [4, 24, 25, 26, 36], [6], [4, 24, 25, 26], [6]]
def f6H : Array (List Nat) := #[[], [], [3, 4], [3], [], [], [8], [4], [], [4]]
def f6A : Ann := ⟨fun r => f6K.getD r [], fun r => f6H.getD r [], fun r i => ([] : List (Nat × Nat)).contains (r, i)⟩
theorem f6C : compF Go.Proofs.Try.prog f6A 6 = some f6 := by kernel_rfl

/-- switchboard/switchboardlaw19.awake -/
abbrev f7o0 : List (Nat × Pop) := [
  (0, ⟨(some 0), .mv (.c (.t (.b false))), none⟩)]
abbrev f7r0 : Pc := .reg f7o0 [] []
abbrev f7o1 : List (Nat × Pop) := [
  (0, ⟨(some 7), .bslT 1 [(.c (.t (.i .i64 65536)))], none⟩),
  (1, ⟨(some 8), .bslT 1 [(.tmp 7)], none⟩),
  (2, ⟨(some 1), .mv (.tmp 8), none⟩)]
abbrev f7r1 : Pc := .reg f7o1 [1] []
abbrev f7o2 : List (Nat × Pop) := [
  (0, ⟨(some 9), .mv (.tmp 1), none⟩),
  (1, ⟨(some 10), .mv (.tmp 1), none⟩),
  (2, ⟨(some 11), .mv (.tmp 1), none⟩),
  (3, ⟨(some 12), .build [.nl, .nl] [(0, 1, (.tmp 10)), (1, 1, (.tmp 11))], none⟩),
  (4, ⟨(some 13), .bslT 2 [(.tmp 12)], none⟩),
  (5, ⟨(some 14), .build [.nl, .nl, (.t (.i .i64 0))] [(0, 1, (.tmp 9)), (1, 1, (.tmp 13)), (2, 1, (.c (.t (.i .i64 1))))], none⟩),
  (6, ⟨(some 15), .bslT 3 [(.tmp 14)], none⟩),
  (7, ⟨(some 16), .build [(.t (.i .i64 0)), .nl] [(0, 1, (.c (.t (.i .i64 1)))), (1, 1, (.tmp 15))], none⟩),
  (8, ⟨(some 2), .alloc 24 [(.t (.i .i64 0)), .nl], none⟩),
  (9, ⟨none, .store 2 (.tmp 2) (.tmp 16), none⟩)]
abbrev f7r2 : Pc := .reg f7o2 [2] []
abbrev f7o3 : List (Nat × Pop) := [
  (0, ⟨(some 18), .load true 2 (.tmp 2), none⟩),
  (1, ⟨(some 19), .bslT 1 [(.c (.t (.i .i64 2)))], none⟩),
  (2, ⟨(some 20), .bslT 1 [(.tmp 19)], none⟩),
  (3, ⟨(some 21), .build [(.t (.i .i64 0)), .nl] [(1, 1, (.tmp 20))], none⟩),
  (4, ⟨(some 22), .bslT 1 [(.c (.t (.i .i64 7)))], none⟩),
  (5, ⟨(some 23), .bslT 1 [(.tmp 22)], none⟩),
  (6, ⟨(some 24), .call 8 [(.tmp 18), (.tmp 21), (.tmp 23)], none⟩),
  (7, ⟨(some 17), .mv (.tmp 24), none⟩),
  (8, ⟨(some 25), .ext 0 (.tmp 17), none⟩),
  (9, ⟨(some 26), .ext 1 (.tmp 17), none⟩),
  (10, ⟨(some 3), .mv (.tmp 25), none⟩),
  (11, ⟨(some 4), .mv (.tmp 26), none⟩)]
abbrev f7r3 : Pc := .reg f7o3 [3, 4] []
abbrev f7o4 : List (Nat × Pop) := [
  (0, ⟨(some 27), .mv (.tmp 3), none⟩),
  (1, ⟨(some 28), .isnilP false (.tmp 27), none⟩),
  (2, ⟨(some 29), .mv (.tmp 28), none⟩),
  (3, ⟨(some 30), .mv (.tmp 4), (some (29, false))⟩),
  (4, ⟨(some 31), .bin .neq (.tmp 30) (.c (.t (.i .i64 0))), (some (29, false))⟩),
  (5, ⟨(some 32), .pick (.tmp 29) (.c (.t (.b true))) (.tmp 31), none⟩),
  (6, ⟨(some 33), .mv (.tmp 32), none⟩),
  (7, ⟨(some 34), .mv (.tmp 3), (some (33, false))⟩),
  (8, ⟨(some 35), .call 9 [(.tmp 34)], (some (33, false))⟩),
  (9, ⟨(some 36), .lenL (.tmp 35), (some (33, false))⟩),
  (10, ⟨(some 37), .bin .neq (.tmp 36) (.c (.t (.i .i64 1))), (some (33, false))⟩),
  (11, ⟨(some 38), .pick (.tmp 33) (.c (.t (.b true))) (.tmp 37), none⟩),
  (12, ⟨(some 39), .mv (.tmp 38), none⟩),
  (13, ⟨(some 40), .mv (.tmp 3), (some (39, false))⟩),
  (14, ⟨(some 41), .call 17 [(.tmp 40), (.c (.t (.i .i64 0)))], (some (39, false))⟩),
  (15, ⟨(some 42), .bin .neq (.tmp 41) (.c (.t (.i .i64 0))), (some (39, false))⟩),
  (16, ⟨(some 43), .pick (.tmp 39) (.c (.t (.b true))) (.tmp 42), none⟩),
  (17, ⟨(some 44), .mv (.tmp 43), none⟩),
  (18, ⟨(some 45), .mv (.tmp 3), (some (44, false))⟩),
  (19, ⟨(some 46), .call 17 [(.tmp 45), (.c (.t (.i .i64 0)))], (some (44, false))⟩),
  (20, ⟨(some 47), .bin .neq (.tmp 46) (.c (.t (.i .i64 0))), (some (44, false))⟩),
  (21, ⟨(some 48), .pick (.tmp 44) (.c (.t (.b true))) (.tmp 47), none⟩)]
abbrev f7r4 : Pc := .reg f7o4 [3, 48] []
abbrev f7o5 : List (Nat × Pop) := [
  (0, ⟨(some 0), .mv (.c (.t (.b false))), none⟩)]
abbrev f7r5 : Pc := .reg f7o5 [0] []
abbrev f7o6 : List (Nat × Pop) := [
  (0, ⟨(some 50), .mv (.tmp 3), none⟩),
  (1, ⟨(some 51), .call 11 [(.tmp 50)], none⟩),
  (2, ⟨(some 49), .mv (.tmp 51), none⟩),
  (3, ⟨(some 52), .ext 0 (.tmp 49), none⟩),
  (4, ⟨(some 53), .ext 1 (.tmp 49), none⟩),
  (5, ⟨(some 5), .mv (.tmp 52), none⟩),
  (6, ⟨(some 6), .mv (.tmp 53), none⟩)]
abbrev f7r6 : Pc := .reg f7o6 [3, 5, 6] []
abbrev f7o7 : List (Nat × Pop) := [
  (0, ⟨(some 54), .mv (.tmp 6), none⟩),
  (1, ⟨(some 55), .mv (.tmp 54), none⟩),
  (2, ⟨(some 56), .mv (.tmp 5), (some (55, true))⟩),
  (3, ⟨(some 57), .lenL (.tmp 56), (some (55, true))⟩),
  (4, ⟨(some 58), .bin .eql (.tmp 57) (.c (.t (.i .i64 1))), (some (55, true))⟩),
  (5, ⟨(some 59), .pick (.tmp 55) (.tmp 58) (.c (.t (.b false))), none⟩),
  (6, ⟨(some 60), .mv (.tmp 59), none⟩),
  (7, ⟨(some 61), .mv (.tmp 5), (some (60, true))⟩),
  (8, ⟨(some 62), .ixS 1 (.tmp 61) (.c (.t (.i .i64 0))), (some (60, true))⟩),
  (9, ⟨(some 63), .load false 1 (.tmp 62), (some (60, true))⟩),
  (10, ⟨(some 64), .lenL (.tmp 63), (some (60, true))⟩),
  (11, ⟨(some 65), .bin .eql (.tmp 64) (.c (.t (.i .i64 1))), (some (60, true))⟩),
  (12, ⟨(some 66), .pick (.tmp 60) (.tmp 65) (.c (.t (.b false))), none⟩),
  (13, ⟨(some 67), .mv (.tmp 66), none⟩),
  (14, ⟨(some 68), .mv (.tmp 5), (some (67, true))⟩),
  (15, ⟨(some 69), .ixS 1 (.tmp 68) (.c (.t (.i .i64 0))), (some (67, true))⟩),
  (16, ⟨(some 70), .load false 1 (.tmp 69), (some (67, true))⟩),
  (17, ⟨(some 71), .ixS 1 (.tmp 70) (.c (.t (.i .i64 0))), (some (67, true))⟩),
  (18, ⟨(some 72), .load false 1 (.tmp 71), (some (67, true))⟩),
  (19, ⟨(some 73), .bin .eql (.tmp 72) (.c (.t (.i .i64 14))), (some (67, true))⟩),
  (20, ⟨(some 74), .pick (.tmp 67) (.tmp 73) (.c (.t (.b false))), none⟩),
  (21, ⟨(some 75), .mv (.tmp 74), none⟩),
  (22, ⟨(some 76), .mv (.tmp 3), (some (75, true))⟩),
  (23, ⟨(some 77), .call 13 [(.tmp 76)], (some (75, true))⟩),
  (24, ⟨(some 78), .bin .eql (.tmp 77) (.c (.t (.i .i64 1))), (some (75, true))⟩),
  (25, ⟨(some 79), .pick (.tmp 75) (.tmp 78) (.c (.t (.b false))), none⟩),
  (26, ⟨(some 80), .mv (.tmp 79), none⟩),
  (27, ⟨(some 81), .mv (.tmp 3), (some (80, true))⟩),
  (28, ⟨(some 82), .call 10 [(.tmp 81), (.c (.t (.i .i64 0)))], (some (80, true))⟩),
  (29, ⟨(some 83), .bin .eql (.tmp 82) (.c (.t (.i .i64 4))), (some (80, true))⟩),
  (30, ⟨(some 84), .pick (.tmp 80) (.tmp 83) (.c (.t (.b false))), none⟩),
  (31, ⟨(some 0), .mv (.tmp 84), none⟩)]
abbrev f7r7 : Pc := .reg f7o7 [0] []
abbrev f7b : Pc := (.seq f7r0 (.seq f7r1 (.seq f7r2 (.seq f7r3 (.seq (.seq f7r4 (.cond (.tmp 48) (.seq f7r5 .ret) .skip)) (.seq f7r6 (.seq f7r7 .ret)))))))
abbrev f7 : Pfn := ⟨0, 85, [.tmp 0], f7b⟩
def f7K : Array (List Nat) := #[[], [1], [2], [3, 4], [3, 48], [0], [3, 5, 6], [0]]
def f7H : Array (List Nat) := #[[], [], [], [], [], [], [], []]
def f7A : Ann := ⟨fun r => f7K.getD r [], fun r => f7H.getD r [], fun r i => ([(9999, 9999)] : List (Nat × Nat)).contains (r, i)⟩
theorem f7C : compF Go.Proofs.Try.prog f7A 7 = some f7 := by kernel_rfl

/-- switchboard/fleet.New -/
abbrev f8o0 : List (Nat × Pop) := [
  (0, ⟨(some 3), .box 24 2 (.tmp 0), none⟩),
  (1, ⟨(some 4), .box 27 2 (.tmp 1), none⟩),
  (2, ⟨(some 6), .mv (.c (.t .np)), none⟩),
  (3, ⟨(some 7), .mv (.c (.t (.i .i64 0))), none⟩)]
abbrev f8r0 : Pc := .reg f8o0 [2, 3, 4] []
abbrev f8o1 : List (Nat × Pop) := [
  (0, ⟨(some 9), .load true 2 (.tmp 3), none⟩),
  (1, ⟨(some 10), .call 18 [(.tmp 9)], none⟩),
  (2, ⟨(some 11), .un .not (.tmp 10), none⟩),
  (3, ⟨(some 12), .mv (.tmp 11), none⟩),
  (4, ⟨(some 13), .load true 2 (.tmp 3), (some (12, false))⟩),
  (5, ⟨(some 14), .mv (.tmp 2), (some (12, false))⟩),
  (6, ⟨(some 15), .call 19 [(.tmp 13), (.tmp 14)], (some (12, false))⟩),
  (7, ⟨(some 16), .un .not (.tmp 15), (some (12, false))⟩),
  (8, ⟨(some 17), .pick (.tmp 12) (.c (.t (.b true))) (.tmp 16), none⟩),
  (9, ⟨(some 18), .mv (.tmp 17), none⟩),
  (10, ⟨(some 19), .load true 2 (.tmp 4), (some (18, false))⟩),
  (11, ⟨(some 20), .call 20 [(.tmp 19)], (some (18, false))⟩),
  (12, ⟨(some 21), .un .not (.tmp 20), (some (18, false))⟩),
  (13, ⟨(some 22), .pick (.tmp 18) (.c (.t (.b true))) (.tmp 21), none⟩),
  (14, ⟨(some 23), .mv (.tmp 22), none⟩),
  (15, ⟨(some 24), .fad 1 (.tmp 3), (some (23, false))⟩),
  (16, ⟨(some 25), .load false 1 (.tmp 24), (some (23, false))⟩),
  (17, ⟨(some 26), .mkfn 22 [(.tmp 4)], (some (23, false))⟩),
  (18, ⟨(some 27), .call 21 [(.tmp 25), (.tmp 26)], (some (23, false))⟩),
  (19, ⟨(some 28), .pick (.tmp 23) (.c (.t (.b true))) (.tmp 27), none⟩)]
abbrev f8r1 : Pc := .reg f8o1 [2, 3, 4, 28] []
abbrev f8o2 : List (Nat × Pop) := [
  (0, ⟨(some 6), .mv (.c (.t .np)), none⟩),
  (1, ⟨(some 7), .mv (.c (.t (.i .i64 1))), none⟩)]
abbrev f8r2 : Pc := .reg f8o2 [6, 7] []
abbrev f8o3 : List (Nat × Pop) := [
  (0, ⟨(some 29), .load true 2 (.tmp 3), none⟩),
  (1, ⟨(some 30), .load true 2 (.tmp 4), none⟩),
  (2, ⟨(some 31), .mv (.tmp 2), none⟩),
  (3, ⟨(some 32), .callq 23 [(.tmp 31)], none⟩),
  (4, ⟨(some 33), .build [(.t (.i .i64 0)), .nl, (.t (.i .i64 0)), .nl, .nl, .nl, .nl, .nl, .nl, .nl, .nl, (.t (.i .i64 0)), .nl, .nl, .nl] [(0, 2, (.tmp 29)), (2, 2, (.tmp 30)), (10, 1, (.tmp 32))], none⟩),
  (5, ⟨(some 34), .box 61 15 (.tmp 33), none⟩),
  (6, ⟨(some 8), .mv (.tmp 34), none⟩)]
abbrev f8r3 : Pc := .reg f8o3 [8] []
abbrev f8o4 : List (Nat × Pop) := [
  (0, ⟨(some 35), .mv (.tmp 8), none⟩),
  (1, ⟨(some 36), .call 24 [(.tmp 35)], none⟩)]
abbrev f8r4 : Pc := .reg f8o4 [8] []
abbrev f8o5 : List (Nat × Pop) := [
  (0, ⟨(some 37), .mv (.tmp 8), none⟩),
  (1, ⟨(some 38), .call 25 [(.tmp 37)], none⟩)]
abbrev f8r5 : Pc := .reg f8o5 [8] []
abbrev f8o6 : List (Nat × Pop) := [
  (0, ⟨(some 39), .mv (.tmp 8), none⟩),
  (1, ⟨(some 6), .mv (.tmp 39), none⟩),
  (2, ⟨(some 7), .mv (.c (.t (.i .i64 0))), none⟩)]
abbrev f8r6 : Pc := .reg f8o6 [6, 7] []
abbrev f8b : Pc := (.seq f8r0 (.seq (.seq f8r1 (.cond (.tmp 28) (.seq f8r2 .ret) .skip)) (.seq f8r3 (.seq f8r4 (.seq f8r5 (.seq f8r6 .ret))))))
abbrev f8 : Pfn := ⟨3, 40, [.tmp 6, .tmp 7], f8b⟩
def f8K : Array (List Nat) := #[[2, 3, 4], [2, 3, 4, 28], [6, 7], [8], [8], [8], [6, 7]]
def f8H : Array (List Nat) := #[[], [], [], [], [], [], []]
def f8A : Ann := ⟨fun r => f8K.getD r [], fun r => f8H.getD r [], fun r i => ([] : List (Nat × Nat)).contains (r, i)⟩
theorem f8C : compF Go.Proofs.Try.prog f8A 8 = some f8 := by kernel_rfl

/-- (*switchboard/fleet.Fleet).Bag -/
abbrev f9o0 : List (Nat × Pop) := [
  (0, ⟨(some 2), .nilv 9 1, none⟩)]
abbrev f9r0 : Pc := .reg f9o0 [0] []
abbrev f9o1 : List (Nat × Pop) := [
  (0, ⟨(some 3), .mv (.tmp 0), none⟩),
  (1, ⟨(some 4), .nchk (.tmp 3), none⟩),
  (2, ⟨(some 5), .fad 9 (.tmp 4), none⟩),
  (3, ⟨(some 6), .load false 1 (.tmp 5), none⟩),
  (4, ⟨(some 7), .call 26 [(.tmp 6)], none⟩),
  (5, ⟨(some 2), .mv (.tmp 7), none⟩)]
abbrev f9r1 : Pc := .reg f9o1 [2] []
abbrev f9b : Pc := (.seq f9r0 (.seq f9r1 .ret))
abbrev f9 : Pfn := ⟨1, 8, [.tmp 2], f9b⟩
def f9K : Array (List Nat) := #[[0], [2]]
def f9H : Array (List Nat) := #[[], []]
def f9A : Ann := ⟨fun r => f9K.getD r [], fun r => f9H.getD r [], fun r i => ([] : List (Nat × Nat)).contains (r, i)⟩
theorem f9C : compF Go.Proofs.Try.prog f9A 9 = some f9 := by kernel_rfl

/-- (*switchboard/fleet.Fleet).Drop -/
abbrev f10o0 : List (Nat × Pop) := [
  (0, ⟨(some 4), .mv (.c (.t (.i .i64 0))), none⟩)]
abbrev f10r0 : Pc := .reg f10o0 [0, 1] []
abbrev f10o1 : List (Nat × Pop) := [
  (0, ⟨(some 9), .mv (.tmp 0), none⟩),
  (1, ⟨(some 10), .nchk (.tmp 9), none⟩),
  (2, ⟨(some 11), .fad 9 (.tmp 10), none⟩),
  (3, ⟨(some 12), .load false 1 (.tmp 11), none⟩),
  (4, ⟨(some 13), .mv (.tmp 1), none⟩),
  (5, ⟨(some 14), .call 27 [(.tmp 12), (.tmp 13)], none⟩),
  (6, ⟨(some 8), .mv (.tmp 14), none⟩),
  (7, ⟨(some 15), .ext 0 (.tmp 8), none⟩),
  (8, ⟨(some 16), .ext 1 (.tmp 8), none⟩),
  (9, ⟨(some 17), .ext 2 (.tmp 8), none⟩),
  (10, ⟨(some 5), .mv (.tmp 15), none⟩),
  (11, ⟨(some 6), .mv (.tmp 16), none⟩),
  (12, ⟨(some 7), .mv (.tmp 17), none⟩)]
abbrev f10r1 : Pc := .reg f10o1 [0, 6, 7] []
abbrev f10o2 : List (Nat × Pop) := [
  (0, ⟨(some 18), .mv (.tmp 0), none⟩),
  (1, ⟨(some 19), .mv (.tmp 6), none⟩),
  (2, ⟨(some 20), .nchk (.tmp 18), none⟩),
  (3, ⟨(some 21), .fad 9 (.tmp 20), none⟩),
  (4, ⟨none, .store 1 (.tmp 21) (.tmp 19), none⟩)]
abbrev f10r2 : Pc := .reg f10o2 [7] []
abbrev f10o3 : List (Nat × Pop) := [
  (0, ⟨(some 22), .mv (.tmp 7), none⟩),
  (1, ⟨(some 23), .un .not (.tmp 22), none⟩)]
abbrev f10r3 : Pc := .reg f10o3 [23] []
abbrev f10o4 : List (Nat × Pop) := [
  (0, ⟨(some 4), .mv (.c (.t (.i .i64 4))), none⟩)]
abbrev f10r4 : Pc := .reg f10o4 [4] []
abbrev f10o5 : List (Nat × Pop) := [
  (0, ⟨(some 4), .mv (.c (.t (.i .i64 0))), none⟩)]
abbrev f10r5 : Pc := .reg f10o5 [4] []
abbrev f10b : Pc := (.seq f10r0 (.seq f10r1 (.seq f10r2 (.seq (.seq f10r3 (.cond (.tmp 23) (.seq f10r4 .ret) .skip)) (.seq f10r5 .ret)))))
abbrev f10 : Pfn := ⟨2, 24, [.tmp 4], f10b⟩
def f10K : Array (List Nat) := #[[0, 1], [0, 6, 7], [7], [23], [4], [4]]
def f10H : Array (List Nat) := #[[], [], [], [], [], []]
def f10A : Ann := ⟨fun r => f10K.getD r [], fun r => f10H.getD r [], fun r i => ([] : List (Nat × Nat)).contains (r, i)⟩
theorem f10C : compF Go.Proofs.Try.prog f10A 10 = some f10 := by kernel_rfl

/-- (*switchboard/fleet.Fleet).Done -/
abbrev f11o0 : List (Nat × Pop) := [
  (0, ⟨(some 2), .nilv 49 1, none⟩),
  (1, ⟨(some 3), .mv (.c (.t (.b false))), none⟩)]
abbrev f11r0 : Pc := .reg f11o0 [0] []
abbrev f11o1 : List (Nat × Pop) := [
  (0, ⟨(some 4), .mv (.tmp 0), none⟩),
  (1, ⟨(some 5), .nchk (.tmp 4), none⟩),
  (2, ⟨(some 6), .fad 11 (.tmp 5), none⟩),
  (3, ⟨(some 7), .load false 1 (.tmp 6), none⟩),
  (4, ⟨(some 8), .mv (.tmp 0), none⟩),
  (5, ⟨(some 9), .nchk (.tmp 8), none⟩),
  (6, ⟨(some 10), .fad 0 (.tmp 9), none⟩),
  (7, ⟨(some 11), .fad 1 (.tmp 10), none⟩),
  (8, ⟨(some 12), .load false 1 (.tmp 11), none⟩),
  (9, ⟨(some 13), .lenL (.tmp 12), none⟩),
  (10, ⟨(some 14), .bin .lss (.tmp 7) (.tmp 13), none⟩)]
abbrev f11r1 : Pc := .reg f11o1 [0, 14] []
abbrev f11o2 : List (Nat × Pop) := [
  (0, ⟨(some 2), .nilv 49 1, none⟩),
  (1, ⟨(some 3), .mv (.c (.t (.b false))), none⟩)]
abbrev f11r2 : Pc := .reg f11o2 [2, 3] []
abbrev f11o3 : List (Nat × Pop) := [
  (0, ⟨(some 15), .mv (.tmp 0), none⟩),
  (1, ⟨(some 16), .nchk (.tmp 15), none⟩),
  (2, ⟨(some 17), .fad 10 (.tmp 16), none⟩),
  (3, ⟨(some 18), .load false 1 (.tmp 17), none⟩),
  (4, ⟨(some 19), .call 23 [(.tmp 18)], none⟩),
  (5, ⟨(some 2), .mv (.tmp 19), none⟩),
  (6, ⟨(some 3), .mv (.c (.t (.b true))), none⟩)]
abbrev f11r3 : Pc := .reg f11o3 [2, 3] []
abbrev f11b : Pc := (.seq f11r0 (.seq (.seq f11r1 (.cond (.tmp 14) (.seq f11r2 .ret) .skip)) (.seq f11r3 .ret)))
abbrev f11 : Pfn := ⟨1, 20, [.tmp 2, .tmp 3], f11b⟩
def f11K : Array (List Nat) := #[[0], [0, 14], [2, 3], [2, 3]]
def f11H : Array (List Nat) := #[[], [], [], []]
def f11A : Ann := ⟨fun r => f11K.getD r [], fun r => f11H.getD r [], fun r i => ([] : List (Nat × Nat)).contains (r, i)⟩
theorem f11C : compF Go.Proofs.Try.prog f11A 11 = some f11 := by kernel_rfl

/-- (*switchboard/fleet.Fleet).Ask -/
abbrev f12o0 : List (Nat × Pop) := [
  (0, ⟨(some 6), .mv (.tmp 0), none⟩),
  (1, ⟨(some 7), .nchk (.tmp 6), none⟩),
  (2, ⟨(some 8), .fad 11 (.tmp 7), none⟩),
  (3, ⟨(some 9), .load false 1 (.tmp 8), none⟩),
  (4, ⟨(some 10), .mv (.tmp 0), none⟩),
  (5, ⟨(some 11), .nchk (.tmp 10), none⟩),
  (6, ⟨(some 12), .fad 0 (.tmp 11), none⟩),
  (7, ⟨(some 13), .fad 1 (.tmp 12), none⟩),
  (8, ⟨(some 14), .load false 1 (.tmp 13), none⟩),
  (9, ⟨(some 15), .lenL (.tmp 14), none⟩),
  (10, ⟨(some 16), .bin .geq (.tmp 9) (.tmp 15), none⟩)]
abbrev f12r0 : Pc := .reg f12o0 [0, 16] []
abbrev f12o1 : List (Nat × Pop) := [
  (0, ⟨(some 17), .mv (.tmp 0), none⟩),
  (1, ⟨(some 18), .nchk (.tmp 17), none⟩),
  (2, ⟨(some 19), .fad 12 (.tmp 18), none⟩),
  (3, ⟨(some 20), .load false 1 (.tmp 19), none⟩),
  (4, ⟨(some 21), .lenL (.tmp 20), none⟩),
  (5, ⟨(some 22), .mv (.c (.t (.i .i64 0))), none⟩)]
abbrev f12r1 : Pc := .reg f12o1 [0, 20, 21, 22] []
abbrev f12o2 : List (Nat × Pop) := [
  (0, ⟨(some 23), .bin .lss (.tmp 22) (.tmp 21), none⟩)]
abbrev f12r2 : Pc := .reg f12o2 [0, 20, 21, 22, 23] []
abbrev f12o3 : List (Nat × Pop) := [
  (0, ⟨(some 24), .mv (.tmp 22), none⟩),
  (1, ⟨(some 25), .ixS 4 (.tmp 20) (.tmp 22), none⟩),
  (2, ⟨(some 26), .load true 4 (.tmp 25), none⟩),
  (3, ⟨(some 3), .alloc 66 [(.t (.i .i64 0)), (.t (.i .i64 0)), (.t (.i .i64 0)), (.t (.i .i64 0))], none⟩),
  (4, ⟨(some 2), .mv (.tmp 24), none⟩),
  (5, ⟨none, .store 4 (.tmp 3) (.tmp 26), none⟩)]
abbrev f12r3 : Pc := .reg f12o3 [0, 2, 3, 20, 21, 22] []
abbrev f12o4 : List (Nat × Pop) := [
  (0, ⟨(some 27), .mv (.tmp 0), none⟩),
  (1, ⟨(some 28), .nchk (.tmp 27), none⟩),
  (2, ⟨(some 29), .fad 14 (.tmp 28), none⟩),
  (3, ⟨(some 30), .load false 1 (.tmp 29), none⟩),
  (4, ⟨(some 31), .mv (.tmp 2), none⟩),
  (5, ⟨(some 32), .ixS 1 (.tmp 30) (.tmp 31), none⟩),
  (6, ⟨(some 33), .load false 1 (.tmp 32), none⟩)]
abbrev f12r4 : Pc := .reg f12o4 [0, 3, 20, 21, 22, 33] []
abbrev f12o5 : List (Nat × Pop) := [
  (0, ⟨(some 35), .mv (.tmp 0), none⟩),
  (1, ⟨(some 36), .nchk (.tmp 35), none⟩),
  (2, ⟨(some 37), .fad 2 (.tmp 36), none⟩),
  (3, ⟨(some 38), .load true 2 (.tmp 37), none⟩),
  (4, ⟨(some 39), .fad 2 (.tmp 3), none⟩),
  (5, ⟨(some 40), .load false 1 (.tmp 39), none⟩),
  (6, ⟨(some 41), .fad 0 (.tmp 3), none⟩),
  (7, ⟨(some 42), .load false 1 (.tmp 41), none⟩),
  (8, ⟨(some 43), .fad 1 (.tmp 3), none⟩),
  (9, ⟨(some 44), .load false 1 (.tmp 43), none⟩),
  (10, ⟨(some 45), .bin .add (.tmp 42) (.tmp 44), none⟩),
  (11, ⟨(some 46), .callq 28 [(.tmp 38), (.tmp 40), (.tmp 45)], none⟩),
  (12, ⟨(some 34), .mv (.tmp 46), none⟩),
  (13, ⟨(some 47), .ext 0 (.tmp 34), none⟩),
  (14, ⟨(some 48), .ext 1 (.tmp 34), none⟩),
  (15, ⟨(some 4), .mv (.tmp 47), none⟩),
  (16, ⟨(some 5), .mv (.tmp 48), none⟩)]
abbrev f12r5 : Pc := .reg f12o5 [0, 3, 4, 20, 21, 22] []
abbrev f12o6 : List (Nat × Pop) := [
  (0, ⟨(some 49), .mv (.tmp 0), none⟩),
  (1, ⟨(some 50), .mv (.tmp 4), none⟩),
  (2, ⟨(some 51), .mv (.tmp 0), none⟩),
  (3, ⟨(some 52), .nchk (.tmp 51), none⟩),
  (4, ⟨(some 53), .fad 11 (.tmp 52), none⟩),
  (5, ⟨(some 54), .load false 1 (.tmp 53), none⟩),
  (6, ⟨(some 55), .fad 0 (.tmp 3), none⟩),
  (7, ⟨(some 56), .load false 1 (.tmp 55), none⟩),
  (8, ⟨(some 57), .fad 1 (.tmp 3), none⟩),
  (9, ⟨(some 58), .load false 1 (.tmp 57), none⟩),
  (10, ⟨(some 59), .fad 2 (.tmp 3), none⟩),
  (11, ⟨(some 60), .load false 1 (.tmp 59), none⟩),
  (12, ⟨(some 61), .mv (.tmp 0), none⟩),
  (13, ⟨(some 62), .nchk (.tmp 61), none⟩),
  (14, ⟨(some 63), .fad 2 (.tmp 62), none⟩),
  (15, ⟨(some 64), .fad 0 (.tmp 63), none⟩),
  (16, ⟨(some 65), .load false 1 (.tmp 64), none⟩),
  (17, ⟨(some 66), .mv (.tmp 0), none⟩),
  (18, ⟨(some 67), .nchk (.tmp 66), none⟩),
  (19, ⟨(some 68), .fad 10 (.tmp 67), none⟩),
  (20, ⟨(some 69), .load false 1 (.tmp 68), none⟩),
  (21, ⟨(some 70), .fad 0 (.tmp 3), none⟩),
  (22, ⟨(some 71), .load false 1 (.tmp 70), none⟩),
  (23, ⟨(some 72), .ixS 1 (.tmp 69) (.tmp 71), none⟩),
  (24, ⟨(some 73), .load false 1 (.tmp 72), none⟩),
  (25, ⟨(some 74), .build [(.t (.i .i64 0)), (.t (.i .i64 0)), (.t (.i .i64 0)), (.t (.i .i64 0)), (.t (.i .i64 0)), (.t (.i .i64 0)), (.t (.i .i64 0)), (.t (.i .i64 0)), (.t (.i .i64 0)), (.t (.i .i64 0)), .nl] [(0, 1, (.c (.t (.i .i64 1)))), (2, 1, (.tmp 50)), (4, 1, (.c (.t (.i .i64 1)))), (5, 1, (.tmp 54)), (6, 1, (.tmp 56)), (7, 1, (.tmp 58)), (8, 1, (.tmp 60)), (9, 1, (.tmp 65)), (10, 1, (.tmp 73))], none⟩),
  (26, ⟨(some 75), .call 29 [(.tmp 49), (.tmp 74)], none⟩)]
abbrev f12r6 : Pc := .reg f12o6 [0, 20, 21, 22] []
abbrev f12o7 : List (Nat × Pop) := [
  (0, ⟨(some 76), .bin .add (.tmp 22) (.c (.t (.i .i64 1))), none⟩),
  (1, ⟨(some 22), .mv (.tmp 76), none⟩)]
abbrev f12r7 : Pc := .reg f12o7 [0, 20, 21, 22] []
def f12l0 : Pc := (.seq f12r2 (.seq (.cond (.tmp 23) .skip (.exit 0)) (.seq (.block 1 (.seq f12r3 (.seq (.seq f12r4 (.cond (.tmp 33) (.exit 1) .skip)) (.seq f12r5 f12r6)))) f12r7)))
theorem f12l0e (C : Cfg) (s : St) : evL C f12l0 s = evL C (.seq f12r2 (.seq (.cond (.tmp 23) .skip (.exit 0)) (.seq (.block 1 (.seq f12r3 (.seq (.seq f12r4 (.cond (.tmp 33) (.exit 1) .skip)) (.seq f12r5 f12r6)))) f12r7))) s := rfl
abbrev f12b : Pc := (.seq (.seq f12r0 (.cond (.tmp 16) .ret .skip)) (.seq f12r1 (.block 0 (.loop f12l0))))
abbrev f12 : Pfn := ⟨1, 77, [], f12b⟩
def f12K : Array (List Nat) := #[[0, 16], [0, 20, 21, 22], [0, 20, 21, 22, 23], [0, 2, 3, 20, 21, 22], [0, 3, 20, 21, 22, 33], [0, 3, 4, 20, 21, 22], [0, 20, 21, 22], [0, 20, 21, 22]]
def f12H : Array (List Nat) := #[[], [], [], [], [], [], [], []]
def f12A : Ann := ⟨fun r => f12K.getD r [], fun r => f12H.getD r [], fun r i => ([(6, 2026)] : List (Nat × Nat)).contains (r, i)⟩
theorem f12C : compF Go.Proofs.Try.prog f12A 12 = some f12 := by kernel_rfl

/-- (*switchboard/fleet.Fleet).Worked -/
abbrev f13o0 : List (Nat × Pop) := [
  (0, ⟨(some 2), .mv (.c (.t (.i .i64 0))), none⟩)]
abbrev f13r0 : Pc := .reg f13o0 [0] []
abbrev f13o1 : List (Nat × Pop) := [
  (0, ⟨(some 3), .mv (.c (.t (.i .i64 0))), none⟩)]
abbrev f13r1 : Pc := .reg f13o1 [0, 3] []
abbrev f13o2 : List (Nat × Pop) := [
  (0, ⟨(some 6), .mv (.tmp 0), none⟩),
  (1, ⟨(some 7), .nchk (.tmp 6), none⟩),
  (2, ⟨(some 8), .fad 4 (.tmp 7), none⟩),
  (3, ⟨(some 9), .load true 5 (.tmp 8), none⟩),
  (4, ⟨(some 10), .mv (.c (.t (.i .i64 0))), none⟩)]
abbrev f13r2 : Pc := .reg f13o2 [3, 9, 10] []
abbrev f13o3 : List (Nat × Pop) := [
  (0, ⟨(some 11), .bin .lss (.tmp 10) (.c (.t (.i .i64 5))), none⟩)]
abbrev f13r3 : Pc := .reg f13o3 [3, 9, 10, 11] []
abbrev f13o4 : List (Nat × Pop) := [
  (0, ⟨(some 12), .ixV false 5 1 (.tmp 9) (.tmp 10), none⟩),
  (1, ⟨(some 5), .mv (.tmp 12), none⟩)]
abbrev f13r4 : Pc := .reg f13o4 [3, 5, 9, 10] []
abbrev f13o5 : List (Nat × Pop) := [
  (0, ⟨(some 13), .mv (.tmp 3), none⟩),
  (1, ⟨(some 14), .mv (.tmp 5), none⟩),
  (2, ⟨(some 15), .lenL (.tmp 14), none⟩),
  (3, ⟨(some 16), .bin .add (.tmp 13) (.tmp 15), none⟩),
  (4, ⟨(some 3), .mv (.tmp 16), none⟩)]
abbrev f13r5 : Pc := .reg f13o5 [3, 9, 10] []
abbrev f13o6 : List (Nat × Pop) := [
  (0, ⟨(some 17), .bin .add (.tmp 10) (.c (.t (.i .i64 1))), none⟩),
  (1, ⟨(some 10), .mv (.tmp 17), none⟩)]
abbrev f13r6 : Pc := .reg f13o6 [3, 9, 10] []
def f13l0 : Pc := (.seq f13r3 (.seq (.cond (.tmp 11) .skip (.exit 0)) (.seq (.block 1 (.seq f13r4 f13r5)) f13r6)))
theorem f13l0e (C : Cfg) (s : St) : evL C f13l0 s = evL C (.seq f13r3 (.seq (.cond (.tmp 11) .skip (.exit 0)) (.seq (.block 1 (.seq f13r4 f13r5)) f13r6))) s := rfl
abbrev f13o7 : List (Nat × Pop) := [
  (0, ⟨(some 18), .mv (.tmp 3), none⟩),
  (1, ⟨(some 2), .mv (.tmp 18), none⟩)]
abbrev f13r7 : Pc := .reg f13o7 [2] []
abbrev f13b : Pc := (.seq f13r0 (.seq f13r1 (.seq (.seq f13r2 (.block 0 (.loop f13l0))) (.seq f13r7 .ret))))
abbrev f13 : Pfn := ⟨1, 19, [.tmp 2], f13b⟩
def f13K : Array (List Nat) := #[[0], [0, 3], [3, 9, 10], [3, 9, 10, 11], [3, 5, 9, 10], [3, 9, 10], [3, 9, 10], [2]]
def f13H : Array (List Nat) := #[[], [], [], [], [], [], [], []]
def f13A : Ann := ⟨fun r => f13K.getD r [], fun r => f13H.getD r [], fun r i => ([] : List (Nat × Nat)).contains (r, i)⟩
theorem f13C : compF Go.Proofs.Try.prog f13A 13 = some f13 := by kernel_rfl

/-- switchboard/switchboardref15.Right -/
abbrev f14o0 : List (Nat × Pop) := [
  (0, ⟨(some 1), .box 24 2 (.tmp 0), none⟩),
  (1, ⟨(some 2), .mv (.c (.t (.b false))), none⟩)]
abbrev f14r0 : Pc := .reg f14o0 [1] []
abbrev f14o1 : List (Nat × Pop) := [
  (0, ⟨(some 8), .fad 0 (.tmp 1), none⟩),
  (1, ⟨(some 9), .load false 1 (.tmp 8), none⟩),
  (2, ⟨(some 10), .bin .lss (.tmp 9) (.c (.t (.i .i64 1))), none⟩),
  (3, ⟨(some 11), .mv (.tmp 10), none⟩),
  (4, ⟨(some 12), .fad 0 (.tmp 1), (some (11, false))⟩),
  (5, ⟨(some 13), .load false 1 (.tmp 12), (some (11, false))⟩),
  (6, ⟨(some 14), .bin .gtr (.tmp 13) (.c (.t (.i .i64 8))), (some (11, false))⟩),
  (7, ⟨(some 15), .pick (.tmp 11) (.c (.t (.b true))) (.tmp 14), none⟩),
  (8, ⟨(some 16), .mv (.tmp 15), none⟩),
  (9, ⟨(some 17), .fad 1 (.tmp 1), (some (16, false))⟩),
  (10, ⟨(some 18), .load false 1 (.tmp 17), (some (16, false))⟩),
  (11, ⟨(some 19), .lenL (.tmp 18), (some (16, false))⟩),
  (12, ⟨(some 20), .bin .lss (.tmp 19) (.c (.t (.i .i64 1))), (some (16, false))⟩),
  (13, ⟨(some 21), .pick (.tmp 16) (.c (.t (.b true))) (.tmp 20), none⟩),
  (14, ⟨(some 22), .mv (.tmp 21), none⟩),
  (15, ⟨(some 23), .fad 1 (.tmp 1), (some (22, false))⟩),
  (16, ⟨(some 24), .load false 1 (.tmp 23), (some (22, false))⟩),
  (17, ⟨(some 25), .lenL (.tmp 24), (some (22, false))⟩),
  (18, ⟨(some 26), .bin .gtr (.tmp 25) (.c (.t (.i .i64 4))), (some (22, false))⟩),
  (19, ⟨(some 27), .pick (.tmp 22) (.c (.t (.b true))) (.tmp 26), none⟩)]
abbrev f14r1 : Pc := .reg f14o1 [1, 27] []
abbrev f14o2 : List (Nat × Pop) := [
  (0, ⟨(some 2), .mv (.c (.t (.b false))), none⟩)]
abbrev f14r2 : Pc := .reg f14o2 [2] [1]
abbrev f14o3 : List (Nat × Pop) := [
  (0, ⟨(some 28), .fad 1 (.tmp 1), none⟩),
  (1, ⟨(some 29), .load false 1 (.tmp 28), none⟩),
  (2, ⟨(some 30), .lenL (.tmp 29), none⟩),
  (3, ⟨(some 31), .mv (.c (.t (.i .i64 0))), none⟩)]
abbrev f14r3 : Pc := .reg f14o3 [1, 29, 30, 31] []
abbrev f14o4 : List (Nat × Pop) := [
  (0, ⟨(some 32), .bin .lss (.tmp 31) (.tmp 30), none⟩)]
abbrev f14r4 : Pc := .reg f14o4 [1, 29, 30, 31, 32] []
abbrev f14o5 : List (Nat × Pop) := [
  (0, ⟨(some 33), .ixS 3 (.tmp 29) (.tmp 31), none⟩),
  (1, ⟨(some 34), .load true 3 (.tmp 33), none⟩),
  (2, ⟨(some 4), .alloc 46 [.nl, .nl, (.t (.i .i64 0))], none⟩),
  (3, ⟨none, .store 3 (.tmp 4) (.tmp 34), none⟩)]
abbrev f14r5 : Pc := .reg f14o5 [1, 4, 29, 30, 31] []
abbrev f14o6 : List (Nat × Pop) := [
  (0, ⟨(some 35), .fad 1 (.tmp 4), none⟩),
  (1, ⟨(some 36), .load false 1 (.tmp 35), none⟩),
  (2, ⟨(some 37), .lenL (.tmp 36), none⟩),
  (3, ⟨(some 5), .mv (.tmp 37), none⟩)]
abbrev f14r6 : Pc := .reg f14o6 [1, 4, 5, 29, 30, 31] []
abbrev f14o7 : List (Nat × Pop) := [
  (0, ⟨(some 38), .mv (.tmp 5), none⟩),
  (1, ⟨(some 39), .bin .lss (.tmp 38) (.c (.t (.i .i64 1))), none⟩),
  (2, ⟨(some 40), .mv (.tmp 39), none⟩),
  (3, ⟨(some 41), .mv (.tmp 5), (some (40, false))⟩),
  (4, ⟨(some 42), .bin .gtr (.tmp 41) (.c (.t (.i .i64 8))), (some (40, false))⟩),
  (5, ⟨(some 43), .pick (.tmp 40) (.c (.t (.b true))) (.tmp 42), none⟩),
  (6, ⟨(some 44), .mv (.tmp 43), none⟩),
  (7, ⟨(some 45), .fad 0 (.tmp 4), (some (44, false))⟩),
  (8, ⟨(some 46), .load false 1 (.tmp 45), (some (44, false))⟩),
  (9, ⟨(some 47), .mv (.tmp 5), (some (44, false))⟩),
  (10, ⟨(some 48), .fad 0 (.tmp 1), (some (44, false))⟩),
  (11, ⟨(some 49), .load false 1 (.tmp 48), (some (44, false))⟩),
  (12, ⟨(some 50), .call 30 [(.tmp 46), (.tmp 47), (.tmp 49)], (some (44, false))⟩),
  (13, ⟨(some 51), .un .not (.tmp 50), (some (44, false))⟩),
  (14, ⟨(some 52), .pick (.tmp 44) (.c (.t (.b true))) (.tmp 51), none⟩),
  (15, ⟨(some 53), .mv (.tmp 52), none⟩),
  (16, ⟨(some 54), .fad 2 (.tmp 4), (some (53, false))⟩),
  (17, ⟨(some 55), .load false 1 (.tmp 54), (some (53, false))⟩),
  (18, ⟨(some 56), .bin .lss (.tmp 55) (.c (.t (.i .i64 1))), (some (53, false))⟩),
  (19, ⟨(some 57), .pick (.tmp 53) (.c (.t (.b true))) (.tmp 56), none⟩),
  (20, ⟨(some 58), .mv (.tmp 57), none⟩),
  (21, ⟨(some 59), .fad 2 (.tmp 4), (some (58, false))⟩),
  (22, ⟨(some 60), .load false 1 (.tmp 59), (some (58, false))⟩),
  (23, ⟨(some 61), .bin .gtr (.tmp 60) (.c (.t (.i .i64 32))), (some (58, false))⟩),
  (24, ⟨(some 62), .pick (.tmp 58) (.c (.t (.b true))) (.tmp 61), none⟩)]
abbrev f14r7 : Pc := .reg f14o7 [1, 4, 29, 30, 31, 62] []
abbrev f14o8 : List (Nat × Pop) := [
  (0, ⟨(some 2), .mv (.c (.t (.b false))), none⟩)]
abbrev f14r8 : Pc := .reg f14o8 [2] [1, 4]
abbrev f14o9 : List (Nat × Pop) := [
  (0, ⟨(some 63), .fad 1 (.tmp 4), none⟩),
  (1, ⟨(some 64), .load false 1 (.tmp 63), none⟩),
  (2, ⟨(some 65), .lenL (.tmp 64), none⟩),
  (3, ⟨(some 66), .mv (.c (.t (.i .i64 0))), none⟩)]
abbrev f14r9 : Pc := .reg f14o9 [1, 29, 30, 31, 64, 65, 66] [4]
abbrev f14o10 : List (Nat × Pop) := [
  (0, ⟨(some 67), .bin .lss (.tmp 66) (.tmp 65), none⟩)]
abbrev f14r10 : Pc := .reg f14o10 [1, 29, 30, 31, 64, 65, 66, 67] []
abbrev f14o11 : List (Nat × Pop) := [
  (0, ⟨(some 68), .ixS 2 (.tmp 64) (.tmp 66), none⟩),
  (1, ⟨(some 69), .load true 2 (.tmp 68), none⟩),
  (2, ⟨(some 7), .alloc 48 [.nl, .nl], none⟩),
  (3, ⟨none, .store 2 (.tmp 7) (.tmp 69), none⟩)]
abbrev f14r11 : Pc := .reg f14o11 [1, 7, 29, 30, 31, 64, 65, 66] []
abbrev f14o12 : List (Nat × Pop) := [
  (0, ⟨(some 70), .load true 2 (.tmp 7), none⟩),
  (1, ⟨(some 71), .fad 0 (.tmp 1), none⟩),
  (2, ⟨(some 72), .load false 1 (.tmp 71), none⟩),
  (3, ⟨(some 73), .call 31 [(.tmp 70), (.tmp 72)], none⟩),
  (4, ⟨(some 74), .un .not (.tmp 73), none⟩)]
abbrev f14r12 : Pc := .reg f14o12 [1, 29, 30, 31, 64, 65, 66, 74] [7]
abbrev f14o13 : List (Nat × Pop) := [
  (0, ⟨(some 2), .mv (.c (.t (.b false))), none⟩)]
abbrev f14r13 : Pc := .reg f14o13 [2] [1]
abbrev f14o14 : List (Nat × Pop) := [
  (0, ⟨(some 75), .bin .add (.tmp 66) (.c (.t (.i .i64 1))), none⟩),
  (1, ⟨(some 66), .mv (.tmp 75), none⟩)]
abbrev f14r14 : Pc := .reg f14o14 [1, 29, 30, 31, 64, 65, 66] []
def f14l0 : Pc := (.seq f14r10 (.seq (.cond (.tmp 67) .skip (.exit 2)) (.seq (.block 3 (.seq f14r11 (.seq f14r12 (.cond (.tmp 74) (.seq f14r13 .ret) .skip)))) f14r14)))
theorem f14l0e (C : Cfg) (s : St) : evL C f14l0 s = evL C (.seq f14r10 (.seq (.cond (.tmp 67) .skip (.exit 2)) (.seq (.block 3 (.seq f14r11 (.seq f14r12 (.cond (.tmp 74) (.seq f14r13 .ret) .skip)))) f14r14))) s := rfl
abbrev f14o15 : List (Nat × Pop) := [
  (0, ⟨(some 76), .bin .add (.tmp 31) (.c (.t (.i .i64 1))), none⟩),
  (1, ⟨(some 31), .mv (.tmp 76), none⟩)]
abbrev f14r15 : Pc := .reg f14o15 [1, 29, 30, 31] []
def f14l1 : Pc := (.seq f14r4 (.seq (.cond (.tmp 32) .skip (.exit 0)) (.seq (.block 1 (.seq f14r5 (.seq f14r6 (.seq (.seq f14r7 (.cond (.tmp 62) (.seq f14r8 .ret) .skip)) (.seq f14r9 (.block 2 (.loop f14l0))))))) f14r15)))
theorem f14l1e (C : Cfg) (s : St) : evL C f14l1 s = evL C (.seq f14r4 (.seq (.cond (.tmp 32) .skip (.exit 0)) (.seq (.block 1 (.seq f14r5 (.seq f14r6 (.seq (.seq f14r7 (.cond (.tmp 62) (.seq f14r8 .ret) .skip)) (.seq f14r9 (.block 2 (.loop f14l0))))))) f14r15))) s := rfl
abbrev f14o16 : List (Nat × Pop) := [
  (0, ⟨(some 2), .mv (.c (.t (.b true))), none⟩)]
abbrev f14r16 : Pc := .reg f14o16 [2] [1]
abbrev f14b : Pc := (.seq f14r0 (.seq (.seq f14r1 (.cond (.tmp 27) (.seq f14r2 .ret) .skip)) (.seq (.seq f14r3 (.block 0 (.loop f14l1))) (.seq f14r16 .ret))))
abbrev f14 : Pfn := ⟨1, 77, [.tmp 2], f14b⟩
def f14K : Array (List Nat) := #[[1], [1, 27], [2], [1, 29, 30, 31], [1, 29, 30, 31, 32], [1, 4, 29, 30, 31], [1, 4, 5, 29, 30, 31], [1, 4, 29, 30, 31, 62], [2], [1, 29, 30, 31, 64, 65, 66], [1, 29, 30, 31, 64, 65, 66, 67], [1, 7, 29, 30, 31, 64, 65, 66], [1, 29, 30, 31, 64, 65, 66, 74], [2], [1, 29, 30, 31, 64, 65, 66], [1, 29, 30, 31], [2]]
def f14H : Array (List Nat) := #[[], [], [1], [], [], [], [], [], [1, 4], [4], [], [], [7], [1], [], [], [1]]
def f14A : Ann := ⟨fun r => f14K.getD r [], fun r => f14H.getD r [], fun r i => ([] : List (Nat × Nat)).contains (r, i)⟩
theorem f14C : compF Go.Proofs.Try.prog f14A 14 = some f14 := by kernel_rfl

/-- switchboard/switchboardref15.Tokens -/
abbrev f15o0 : List (Nat × Pop) := [
  (0, ⟨(some 2), .box 24 2 (.tmp 0), none⟩),
  (1, ⟨(some 4), .mv (.c (.t (.b false))), none⟩)]
abbrev f15r0 : Pc := .reg f15o0 [1, 2] []
abbrev f15o1 : List (Nat × Pop) := [
  (0, ⟨(some 5), .mv (.tmp 1), none⟩),
  (1, ⟨(some 6), .lenL (.tmp 5), none⟩),
  (2, ⟨(some 7), .bin .gtr (.tmp 6) (.c (.t (.i .i64 0))), none⟩),
  (3, ⟨(some 8), .mv (.tmp 7), none⟩),
  (4, ⟨(some 9), .mv (.tmp 1), (some (8, true))⟩),
  (5, ⟨(some 10), .lenL (.tmp 9), (some (8, true))⟩),
  (6, ⟨(some 11), .bin .lss (.tmp 10) (.c (.t (.i .i64 17))), (some (8, true))⟩),
  (7, ⟨(some 12), .pick (.tmp 8) (.tmp 11) (.c (.t (.b false))), none⟩),
  (8, ⟨(some 13), .mv (.tmp 12), none⟩),
  (9, ⟨(some 14), .mv (.tmp 1), (some (13, true))⟩),
  (10, ⟨(some 15), .mv (.tmp 1), (some (13, true))⟩),
  (11, ⟨(some 16), .lenL (.tmp 15), (some (13, true))⟩),
  (12, ⟨(some 17), .fad 0 (.tmp 2), (some (13, true))⟩),
  (13, ⟨(some 18), .load false 1 (.tmp 17), (some (13, true))⟩),
  (14, ⟨(some 19), .call 30 [(.tmp 14), (.tmp 16), (.tmp 18)], (some (13, true))⟩),
  (15, ⟨(some 20), .pick (.tmp 13) (.tmp 19) (.c (.t (.b false))), none⟩),
  (16, ⟨(some 4), .mv (.tmp 20), none⟩)]
abbrev f15r1 : Pc := .reg f15o1 [4] [2]
abbrev f15b : Pc := (.seq f15r0 (.seq f15r1 .ret))
abbrev f15 : Pfn := ⟨2, 21, [.tmp 4], f15b⟩
def f15K : Array (List Nat) := #[[1, 2], [4]]
def f15H : Array (List Nat) := #[[], [2]]
def f15A : Ann := ⟨fun r => f15K.getD r [], fun r => f15H.getD r [], fun r i => ([] : List (Nat × Nat)).contains (r, i)⟩
theorem f15C : compF Go.Proofs.Try.prog f15A 15 = some f15 := by kernel_rfl

/-- switchboard/switchboardref17.Right -/
abbrev f16o0 : List (Nat × Pop) := [
  (0, ⟨(some 1), .box 31 2 (.tmp 0), none⟩),
  (1, ⟨(some 2), .mv (.c (.t (.b false))), none⟩)]
abbrev f16r0 : Pc := .reg f16o0 [1] []
abbrev f16o1 : List (Nat × Pop) := [
  (0, ⟨(some 6), .fad 0 (.tmp 1), none⟩),
  (1, ⟨(some 7), .load false 1 (.tmp 6), none⟩),
  (2, ⟨(some 8), .bin .lss (.tmp 7) (.c (.t (.i .i64 0))), none⟩),
  (3, ⟨(some 9), .mv (.tmp 8), none⟩),
  (4, ⟨(some 10), .fad 0 (.tmp 1), (some (9, false))⟩),
  (5, ⟨(some 11), .load false 1 (.tmp 10), (some (9, false))⟩),
  (6, ⟨(some 12), .bin .gtr (.tmp 11) (.c (.t (.i .i64 2147483647))), (some (9, false))⟩),
  (7, ⟨(some 13), .pick (.tmp 9) (.c (.t (.b true))) (.tmp 12), none⟩),
  (8, ⟨(some 14), .mv (.tmp 13), none⟩),
  (9, ⟨(some 15), .fad 1 (.tmp 1), (some (14, false))⟩),
  (10, ⟨(some 16), .load false 1 (.tmp 15), (some (14, false))⟩),
  (11, ⟨(some 17), .lenL (.tmp 16), (some (14, false))⟩),
  (12, ⟨(some 18), .bin .gtr (.tmp 17) (.c (.t (.i .i64 8))), (some (14, false))⟩),
  (13, ⟨(some 19), .pick (.tmp 14) (.c (.t (.b true))) (.tmp 18), none⟩)]
abbrev f16r1 : Pc := .reg f16o1 [1, 19] []
abbrev f16o2 : List (Nat × Pop) := [
  (0, ⟨(some 2), .mv (.c (.t (.b false))), none⟩)]
abbrev f16r2 : Pc := .reg f16o2 [2] [1]
abbrev f16o3 : List (Nat × Pop) := [
  (0, ⟨(some 3), .mv (.c (.t (.i .i64 0))), none⟩)]
abbrev f16r3 : Pc := .reg f16o3 [1, 3] []
abbrev f16o4 : List (Nat × Pop) := [
  (0, ⟨(some 20), .mv (.tmp 3), none⟩),
  (1, ⟨(some 21), .fad 1 (.tmp 1), none⟩),
  (2, ⟨(some 22), .load false 1 (.tmp 21), none⟩),
  (3, ⟨(some 23), .lenL (.tmp 22), none⟩),
  (4, ⟨(some 24), .bin .lss (.tmp 20) (.tmp 23), none⟩)]
abbrev f16r4 : Pc := .reg f16o4 [1, 3, 24] []
abbrev f16o6 : List (Nat × Pop) := [
  (0, ⟨(some 27), .fad 1 (.tmp 1), none⟩),
  (1, ⟨(some 28), .load false 1 (.tmp 27), none⟩),
  (2, ⟨(some 29), .mv (.tmp 3), none⟩),
  (3, ⟨(some 30), .ixS 1 (.tmp 28) (.tmp 29), none⟩),
  (4, ⟨(some 31), .load false 1 (.tmp 30), none⟩),
  (5, ⟨(some 4), .mv (.tmp 31), none⟩)]
abbrev f16r6 : Pc := .reg f16o6 [1, 3, 4] []
abbrev f16o7 : List (Nat × Pop) := [
  (0, ⟨(some 32), .mv (.tmp 4), none⟩),
  (1, ⟨(some 33), .lenL (.tmp 32), none⟩),
  (2, ⟨(some 34), .bin .eql (.tmp 33) (.c (.t (.i .i64 0))), none⟩)]
abbrev f16r7 : Pc := .reg f16o7 [1, 3, 4, 34] []
abbrev f16o8 : List (Nat × Pop) := [
  (0, ⟨(some 2), .mv (.c (.t (.b false))), none⟩)]
abbrev f16r8 : Pc := .reg f16o8 [2] [1]
abbrev f16o9 : List (Nat × Pop) := [
  (0, ⟨(some 5), .mv (.c (.t (.i .i64 0))), none⟩)]
abbrev f16r9 : Pc := .reg f16o9 [1, 3, 4, 5] []
abbrev f16o10 : List (Nat × Pop) := [
  (0, ⟨(some 35), .mv (.tmp 5), none⟩),
  (1, ⟨(some 36), .mv (.tmp 4), none⟩),
  (2, ⟨(some 37), .lenL (.tmp 36), none⟩),
  (3, ⟨(some 38), .bin .lss (.tmp 35) (.tmp 37), none⟩)]
abbrev f16r10 : Pc := .reg f16o10 [1, 3, 4, 5, 38] []
abbrev f16o12 : List (Nat × Pop) := [
  (0, ⟨(some 41), .mv (.tmp 4), none⟩),
  (1, ⟨(some 42), .mv (.tmp 5), none⟩),
  (2, ⟨(some 43), .ixS 1 (.tmp 41) (.tmp 42), none⟩),
  (3, ⟨(some 44), .load false 1 (.tmp 43), none⟩),
  (4, ⟨(some 45), .bin .lss (.tmp 44) (.c (.t (.i .i64 1))), none⟩),
  (5, ⟨(some 46), .mv (.tmp 45), none⟩),
  (6, ⟨(some 47), .mv (.tmp 4), (some (46, false))⟩),
  (7, ⟨(some 48), .mv (.tmp 5), (some (46, false))⟩),
  (8, ⟨(some 49), .ixS 1 (.tmp 47) (.tmp 48), (some (46, false))⟩),
  (9, ⟨(some 50), .load false 1 (.tmp 49), (some (46, false))⟩),
  (10, ⟨(some 51), .bin .gtr (.tmp 50) (.c (.t (.i .i64 4))), (some (46, false))⟩),
  (11, ⟨(some 52), .pick (.tmp 46) (.c (.t (.b true))) (.tmp 51), none⟩),
  (12, ⟨(some 53), .mv (.tmp 52), none⟩),
  (13, ⟨(some 54), .mv (.tmp 5), (some (53, false))⟩),
  (14, ⟨(some 55), .bin .gtr (.tmp 54) (.c (.t (.i .i64 0))), (some (53, false))⟩),
  (15, ⟨(some 56), .mv (.tmp 55), (some (53, false))⟩),
  (16, ⟨(some 57), .mv (.tmp 4), (some (56, true))⟩),
  (17, ⟨(some 58), .mv (.tmp 5), (some (56, true))⟩),
  (18, ⟨(some 59), .ixS 1 (.tmp 57) (.tmp 58), (some (56, true))⟩),
  (19, ⟨(some 60), .load false 1 (.tmp 59), (some (56, true))⟩),
  (20, ⟨(some 61), .mv (.tmp 4), (some (56, true))⟩),
  (21, ⟨(some 62), .mv (.tmp 5), (some (56, true))⟩),
  (22, ⟨(some 63), .bin .sub (.tmp 62) (.c (.t (.i .i64 1))), (some (56, true))⟩),
  (23, ⟨(some 64), .ixS 1 (.tmp 61) (.tmp 63), (some (56, true))⟩),
  (24, ⟨(some 65), .load false 1 (.tmp 64), (some (56, true))⟩),
  (25, ⟨(some 66), .bin .leq (.tmp 60) (.tmp 65), (some (56, true))⟩),
  (26, ⟨(some 67), .pick (.tmp 56) (.tmp 66) (.c (.t (.b false))), (some (53, false))⟩),
  (27, ⟨(some 68), .pick (.tmp 53) (.c (.t (.b true))) (.tmp 67), none⟩)]
abbrev f16r12 : Pc := .reg f16o12 [1, 3, 4, 5, 68] []
abbrev f16o13 : List (Nat × Pop) := [
  (0, ⟨(some 2), .mv (.c (.t (.b false))), none⟩)]
abbrev f16r13 : Pc := .reg f16o13 [2] [1]
abbrev f16o11 : List (Nat × Pop) := [
  (0, ⟨(some 39), .mv (.tmp 5), none⟩),
  (1, ⟨(some 40), .bin .add (.tmp 39) (.c (.t (.i .i64 1))), none⟩),
  (2, ⟨(some 5), .mv (.tmp 40), none⟩)]
abbrev f16r11 : Pc := .reg f16o11 [1, 3, 4, 5] []
def f16l0 : Pc := (.seq (.seq f16r10 (.cond (.tmp 38) .skip (.exit 2))) (.seq (.block 3 (.seq f16r12 (.cond (.tmp 68) (.seq f16r13 .ret) .skip))) f16r11))
theorem f16l0e (C : Cfg) (s : St) : evL C f16l0 s = evL C (.seq (.seq f16r10 (.cond (.tmp 38) .skip (.exit 2))) (.seq (.block 3 (.seq f16r12 (.cond (.tmp 68) (.seq f16r13 .ret) .skip))) f16r11)) s := rfl
abbrev f16o5 : List (Nat × Pop) := [
  (0, ⟨(some 25), .mv (.tmp 3), none⟩),
  (1, ⟨(some 26), .bin .add (.tmp 25) (.c (.t (.i .i64 1))), none⟩),
  (2, ⟨(some 3), .mv (.tmp 26), none⟩)]
abbrev f16r5 : Pc := .reg f16o5 [1, 3] []
def f16l1 : Pc := (.seq (.seq f16r4 (.cond (.tmp 24) .skip (.exit 0))) (.seq (.block 1 (.seq f16r6 (.seq (.seq f16r7 (.cond (.tmp 34) (.seq f16r8 .ret) .skip)) (.seq f16r9 (.block 2 (.loop f16l0)))))) f16r5))
theorem f16l1e (C : Cfg) (s : St) : evL C f16l1 s = evL C (.seq (.seq f16r4 (.cond (.tmp 24) .skip (.exit 0))) (.seq (.block 1 (.seq f16r6 (.seq (.seq f16r7 (.cond (.tmp 34) (.seq f16r8 .ret) .skip)) (.seq f16r9 (.block 2 (.loop f16l0)))))) f16r5)) s := rfl
abbrev f16o14 : List (Nat × Pop) := [
  (0, ⟨(some 2), .mv (.c (.t (.b true))), none⟩)]
abbrev f16r14 : Pc := .reg f16o14 [2] [1]
abbrev f16b : Pc := (.seq f16r0 (.seq (.seq f16r1 (.cond (.tmp 19) (.seq f16r2 .ret) .skip)) (.seq (.seq f16r3 (.block 0 (.loop f16l1))) (.seq f16r14 .ret))))
abbrev f16 : Pfn := ⟨1, 69, [.tmp 2], f16b⟩
def f16K : Array (List Nat) := #[[1], [1, 19], [2], [1, 3], [1, 3, 24], [1, 3], [1, 3, 4], [1, 3, 4, 34], [2], [1, 3, 4, 5], [1, 3, 4, 5, 38], [1, 3, 4, 5], [1, 3, 4, 5, 68], [2], [2]]
def f16H : Array (List Nat) := #[[], [], [1], [], [], [], [], [], [1], [], [], [], [], [1], [1]]
def f16A : Ann := ⟨fun r => f16K.getD r [], fun r => f16H.getD r [], fun r i => ([] : List (Nat × Nat)).contains (r, i)⟩
theorem f16C : compF Go.Proofs.Try.prog f16A 16 = some f16 := by kernel_rfl

/-- (*switchboard/fleet.Fleet).Deliver -/
abbrev f17o0 : List (Nat × Pop) := [
  (0, ⟨(some 4), .mv (.c (.t (.i .i64 0))), none⟩)]
abbrev f17r0 : Pc := .reg f17o0 [0, 1] []
abbrev f17o1 : List (Nat × Pop) := [
  (0, ⟨(some 14), .mv (.tmp 0), none⟩),
  (1, ⟨(some 15), .nchk (.tmp 14), none⟩),
  (2, ⟨(some 16), .fad 9 (.tmp 15), none⟩),
  (3, ⟨(some 17), .load false 1 (.tmp 16), none⟩),
  (4, ⟨(some 18), .mv (.tmp 1), none⟩),
  (5, ⟨(some 19), .call 27 [(.tmp 17), (.tmp 18)], none⟩),
  (6, ⟨(some 13), .mv (.tmp 19), none⟩),
  (7, ⟨(some 20), .ext 0 (.tmp 13), none⟩),
  (8, ⟨(some 21), .ext 1 (.tmp 13), none⟩),
  (9, ⟨(some 22), .ext 2 (.tmp 13), none⟩),
  (10, ⟨(some 5), .mv (.tmp 20), none⟩),
  (11, ⟨(some 6), .mv (.tmp 21), none⟩),
  (12, ⟨(some 7), .mv (.tmp 22), none⟩)]
abbrev f17r1 : Pc := .reg f17o1 [0, 5, 6, 7] []
abbrev f17o2 : List (Nat × Pop) := [
  (0, ⟨(some 23), .mv (.tmp 7), none⟩),
  (1, ⟨(some 24), .un .not (.tmp 23), none⟩)]
abbrev f17r2 : Pc := .reg f17o2 [0, 5, 6, 24] []
abbrev f17o3 : List (Nat × Pop) := [
  (0, ⟨(some 4), .mv (.c (.t (.i .i64 4))), none⟩)]
abbrev f17r3 : Pc := .reg f17o3 [4] []
abbrev f17o4 : List (Nat × Pop) := [
  (0, ⟨(some 25), .mv (.tmp 0), none⟩),
  (1, ⟨(some 26), .mv (.tmp 6), none⟩),
  (2, ⟨(some 27), .nchk (.tmp 25), none⟩),
  (3, ⟨(some 28), .fad 9 (.tmp 27), none⟩),
  (4, ⟨none, .store 1 (.tmp 28) (.tmp 26), none⟩)]
abbrev f17r4 : Pc := .reg f17o4 [0, 5] []
abbrev f17o5 : List (Nat × Pop) := [
  (0, ⟨(some 30), .mv (.tmp 5), none⟩),
  (1, ⟨(some 31), .call 32 [(.tmp 30)], none⟩),
  (2, ⟨(some 29), .mv (.tmp 31), none⟩),
  (3, ⟨(some 32), .ext 0 (.tmp 29), none⟩),
  (4, ⟨(some 33), .ext 1 (.tmp 29), none⟩),
  (5, ⟨(some 8), .alloc 71 [(.t (.i .i64 0)), (.t (.i .i64 0)), (.t (.i .i64 0)), (.t (.i .i64 0)), (.t (.i .i64 0)), (.t (.i .i64 0)), (.t (.i .i64 0)), (.t (.i .i64 0)), (.t (.i .i64 0)), (.t (.i .i64 0)), .nl], none⟩),
  (6, ⟨none, .store 11 (.tmp 8) (.tmp 32), none⟩),
  (7, ⟨(some 9), .mv (.tmp 33), none⟩)]
abbrev f17r5 : Pc := .reg f17o5 [0, 8, 9] []
abbrev f17o6 : List (Nat × Pop) := [
  (0, ⟨(some 35), .mv (.tmp 9), none⟩),
  (1, ⟨(some 36), .bin .neq (.tmp 35) (.c (.t (.i .i64 0))), none⟩),
  (2, ⟨(some 34), .mv (.tmp 36), none⟩)]
abbrev f17r6 : Pc := .reg f17o6 [0, 8, 34] []
abbrev f17o7 : List (Nat × Pop) := [
  (0, ⟨(some 38), .fad 2 (.tmp 8), none⟩),
  (1, ⟨(some 39), .load false 1 (.tmp 38), none⟩),
  (2, ⟨(some 40), .bin .eql (.tmp 39) (.c (.t (.i .i64 0))), none⟩),
  (3, ⟨(some 37), .mv (.tmp 40), none⟩)]
abbrev f17r7 : Pc := .reg f17o7 [0, 8, 37] []
abbrev f17o8 : List (Nat × Pop) := [
  (0, ⟨(some 41), .mv (.tmp 0), none⟩),
  (1, ⟨(some 42), .load true 11 (.tmp 8), none⟩),
  (2, ⟨(some 43), .call 33 [(.tmp 41), (.tmp 42)], none⟩)]
abbrev f17r8 : Pc := .reg f17o8 [] []
abbrev f17o9 : List (Nat × Pop) := [
  (0, ⟨(some 45), .fad 2 (.tmp 8), none⟩),
  (1, ⟨(some 46), .load false 1 (.tmp 45), none⟩),
  (2, ⟨(some 47), .bin .leq (.tmp 46) (.c (.t (.i .i64 4))), none⟩),
  (3, ⟨(some 44), .mv (.tmp 47), none⟩)]
abbrev f17r9 : Pc := .reg f17o9 [0, 8, 44] []
abbrev f17o10 : List (Nat × Pop) := [
  (0, ⟨(some 49), .mv (.tmp 0), none⟩),
  (1, ⟨(some 50), .nchk (.tmp 49), none⟩),
  (2, ⟨(some 51), .fad 0 (.tmp 50), none⟩),
  (3, ⟨(some 52), .load true 2 (.tmp 51), none⟩),
  (4, ⟨(some 53), .mv (.tmp 0), none⟩),
  (5, ⟨(some 54), .nchk (.tmp 53), none⟩),
  (6, ⟨(some 55), .fad 2 (.tmp 54), none⟩),
  (7, ⟨(some 56), .load true 2 (.tmp 55), none⟩),
  (8, ⟨(some 57), .fad 2 (.tmp 8), none⟩),
  (9, ⟨(some 58), .load false 1 (.tmp 57), none⟩),
  (10, ⟨(some 59), .mv (.tmp 0), none⟩),
  (11, ⟨(some 60), .fad 2 (.tmp 8), none⟩),
  (12, ⟨(some 61), .load false 1 (.tmp 60), none⟩),
  (13, ⟨(some 62), .nchk (.tmp 59), none⟩),
  (14, ⟨(some 63), .fad 4 (.tmp 62), none⟩),
  (15, ⟨(some 64), .ixA 5 1 (.tmp 63) (.tmp 61), none⟩),
  (16, ⟨(some 65), .load false 1 (.tmp 64), none⟩),
  (17, ⟨(some 66), .load true 11 (.tmp 8), none⟩),
  (18, ⟨(some 67), .callq 34 [(.tmp 52), (.tmp 56), (.tmp 58), (.tmp 65), (.tmp 66)], none⟩),
  (19, ⟨(some 48), .mv (.tmp 67), none⟩),
  (20, ⟨(some 68), .ext 0 (.tmp 48), none⟩),
  (21, ⟨(some 69), .ext 1 (.tmp 48), none⟩),
  (22, ⟨(some 70), .ext 2 (.tmp 48), none⟩),
  (23, ⟨(some 11), .alloc 71 [(.t (.i .i64 0)), (.t (.i .i64 0)), (.t (.i .i64 0)), (.t (.i .i64 0)), (.t (.i .i64 0)), (.t (.i .i64 0)), (.t (.i .i64 0)), (.t (.i .i64 0)), (.t (.i .i64 0)), (.t (.i .i64 0)), .nl], none⟩),
  (24, ⟨(some 10), .mv (.tmp 68), none⟩),
  (25, ⟨none, .store 11 (.tmp 11) (.tmp 69), none⟩),
  (26, ⟨(some 12), .mv (.tmp 70), none⟩)]
abbrev f17r10 : Pc := .reg f17o10 [0, 8, 10, 11, 12] []
abbrev f17o11 : List (Nat × Pop) := [
  (0, ⟨(some 71), .mv (.tmp 0), none⟩),
  (1, ⟨(some 72), .fad 2 (.tmp 8), none⟩),
  (2, ⟨(some 73), .load false 1 (.tmp 72), none⟩),
  (3, ⟨(some 74), .mv (.tmp 10), none⟩),
  (4, ⟨(some 75), .nchk (.tmp 71), none⟩),
  (5, ⟨(some 76), .fad 4 (.tmp 75), none⟩),
  (6, ⟨(some 77), .ixA 5 1 (.tmp 76) (.tmp 73), none⟩),
  (7, ⟨none, .store 1 (.tmp 77) (.tmp 74), none⟩)]
abbrev f17r11 : Pc := .reg f17o11 [0, 11, 12] []
abbrev f17o12 : List (Nat × Pop) := [
  (0, ⟨(some 78), .mv (.tmp 12), none⟩)]
abbrev f17r12 : Pc := .reg f17o12 [0, 11, 78] []
abbrev f17o13 : List (Nat × Pop) := [
  (0, ⟨(some 79), .mv (.tmp 0), none⟩),
  (1, ⟨(some 80), .load true 11 (.tmp 11), none⟩),
  (2, ⟨(some 81), .call 29 [(.tmp 79), (.tmp 80)], none⟩)]
abbrev f17r13 : Pc := .reg f17o13 [] []
abbrev f17o14 : List (Nat × Pop) := [
  (0, ⟨(some 4), .mv (.c (.t (.i .i64 0))), none⟩)]
abbrev f17r14 : Pc := .reg f17o14 [4] []
abbrev f17b : Pc := (.seq f17r0 (.seq f17r1 (.seq (.seq f17r2 (.cond (.tmp 24) (.seq f17r3 .ret) .skip)) (.seq f17r4 (.seq f17r5 (.seq (.block 0 (.seq f17r6 (.cond (.tmp 34) .skip (.seq f17r7 (.cond (.tmp 37) f17r8 (.seq f17r9 (.cond (.tmp 44) (.seq f17r10 (.seq f17r11 (.seq f17r12 (.cond (.tmp 78) f17r13 .skip)))) .skip))))))) (.seq f17r14 .ret)))))))
abbrev f17 : Pfn := ⟨2, 82, [.tmp 4], f17b⟩
def f17K : Array (List Nat) := #[[0, 1], [0, 5, 6, 7], [0, 5, 6, 24], [4], [0, 5], [0, 8, 9], [0, 8, 34], [0, 8, 37], [], [0, 8, 44], [0, 8, 10, 11, 12], [0, 11, 12], [0, 11, 78], [], [4]]
def f17H : Array (List Nat) := #[[], [], [], [], [], [], [], [], [], [], [], [], [], [], []]
def f17A : Ann := ⟨fun r => f17K.getD r [], fun r => f17H.getD r [], fun r i => ([] : List (Nat × Nat)).contains (r, i)⟩
theorem f17C : compF Go.Proofs.Try.prog f17A 17 = some f17 := by kernel_rfl

/-- switchboard/model.Right -/
abbrev f18o0 : List (Nat × Pop) := [
  (0, ⟨(some 1), .box 24 2 (.tmp 0), none⟩),
  (1, ⟨(some 2), .mv (.c (.t (.b false))), none⟩)]
abbrev f18r0 : Pc := .reg f18o0 [1] []
abbrev f18o1 : List (Nat × Pop) := [
  (0, ⟨(some 3), .fad 0 (.tmp 1), none⟩),
  (1, ⟨(some 4), .load false 1 (.tmp 3), none⟩),
  (2, ⟨(some 5), .bin .geq (.tmp 4) (.c (.t (.i .i64 1))), none⟩),
  (3, ⟨(some 6), .mv (.tmp 5), none⟩),
  (4, ⟨(some 7), .fad 0 (.tmp 1), (some (6, true))⟩),
  (5, ⟨(some 8), .load false 1 (.tmp 7), (some (6, true))⟩),
  (6, ⟨(some 9), .bin .leq (.tmp 8) (.c (.t (.i .i64 8))), (some (6, true))⟩),
  (7, ⟨(some 10), .pick (.tmp 6) (.tmp 9) (.c (.t (.b false))), none⟩),
  (8, ⟨(some 11), .mv (.tmp 10), none⟩),
  (9, ⟨(some 12), .fad 1 (.tmp 1), (some (11, true))⟩),
  (10, ⟨(some 13), .load false 1 (.tmp 12), (some (11, true))⟩),
  (11, ⟨(some 14), .lenL (.tmp 13), (some (11, true))⟩),
  (12, ⟨(some 15), .bin .geq (.tmp 14) (.c (.t (.i .i64 1))), (some (11, true))⟩),
  (13, ⟨(some 16), .pick (.tmp 11) (.tmp 15) (.c (.t (.b false))), none⟩),
  (14, ⟨(some 17), .mv (.tmp 16), none⟩),
  (15, ⟨(some 18), .fad 1 (.tmp 1), (some (17, true))⟩),
  (16, ⟨(some 19), .load false 1 (.tmp 18), (some (17, true))⟩),
  (17, ⟨(some 20), .lenL (.tmp 19), (some (17, true))⟩),
  (18, ⟨(some 21), .bin .leq (.tmp 20) (.c (.t (.i .i64 4))), (some (17, true))⟩),
  (19, ⟨(some 22), .pick (.tmp 17) (.tmp 21) (.c (.t (.b false))), none⟩),
  (20, ⟨(some 23), .mv (.tmp 22), none⟩),
  (21, ⟨(some 24), .fad 1 (.tmp 1), (some (23, true))⟩),
  (22, ⟨(some 25), .load false 1 (.tmp 24), (some (23, true))⟩),
  (23, ⟨(some 26), .mkfn 35 [(.tmp 1)], (some (23, true))⟩),
  (24, ⟨(some 27), .call 21 [(.tmp 25), (.tmp 26)], (some (23, true))⟩),
  (25, ⟨(some 28), .un .not (.tmp 27), (some (23, true))⟩),
  (26, ⟨(some 29), .pick (.tmp 23) (.tmp 28) (.c (.t (.b false))), none⟩),
  (27, ⟨(some 2), .mv (.tmp 29), none⟩)]
abbrev f18r1 : Pc := .reg f18o1 [2] [1]
abbrev f18b : Pc := (.seq f18r0 (.seq f18r1 .ret))
abbrev f18 : Pfn := ⟨1, 30, [.tmp 2], f18b⟩
def f18K : Array (List Nat) := #[[1], [2]]
def f18H : Array (List Nat) := #[[], [1]]
def f18A : Ann := ⟨fun r => f18K.getD r [], fun r => f18H.getD r [], fun r i => ([] : List (Nat × Nat)).contains (r, i)⟩
theorem f18C : compF Go.Proofs.Try.prog f18A 18 = some f18 := by kernel_rfl

/-- switchboard/model.Tokens -/
abbrev f19o0 : List (Nat × Pop) := [
  (0, ⟨(some 2), .box 24 2 (.tmp 0), none⟩),
  (1, ⟨(some 4), .mv (.c (.t (.b false))), none⟩)]
abbrev f19r0 : Pc := .reg f19o0 [1, 2] []
abbrev f19o1 : List (Nat × Pop) := [
  (0, ⟨(some 5), .mv (.tmp 1), none⟩),
  (1, ⟨(some 6), .lenL (.tmp 5), none⟩),
  (2, ⟨(some 7), .bin .geq (.tmp 6) (.c (.t (.i .i64 1))), none⟩),
  (3, ⟨(some 8), .mv (.tmp 7), none⟩),
  (4, ⟨(some 9), .mv (.tmp 1), (some (8, true))⟩),
  (5, ⟨(some 10), .lenL (.tmp 9), (some (8, true))⟩),
  (6, ⟨(some 11), .bin .leq (.tmp 10) (.c (.t (.i .i64 16))), (some (8, true))⟩),
  (7, ⟨(some 12), .pick (.tmp 8) (.tmp 11) (.c (.t (.b false))), none⟩),
  (8, ⟨(some 13), .mv (.tmp 12), none⟩),
  (9, ⟨(some 14), .mv (.tmp 1), (some (13, true))⟩),
  (10, ⟨(some 15), .mkfn 38 [(.tmp 2)], (some (13, true))⟩),
  (11, ⟨(some 16), .call 37 [(.tmp 14), (.tmp 15)], (some (13, true))⟩),
  (12, ⟨(some 17), .un .not (.tmp 16), (some (13, true))⟩),
  (13, ⟨(some 18), .pick (.tmp 13) (.tmp 17) (.c (.t (.b false))), none⟩),
  (14, ⟨(some 4), .mv (.tmp 18), none⟩)]
abbrev f19r1 : Pc := .reg f19o1 [4] [2]
abbrev f19b : Pc := (.seq f19r0 (.seq f19r1 .ret))
abbrev f19 : Pfn := ⟨2, 19, [.tmp 4], f19b⟩
def f19K : Array (List Nat) := #[[1, 2], [4]]
def f19H : Array (List Nat) := #[[], [2]]
def f19A : Ann := ⟨fun r => f19K.getD r [], fun r => f19H.getD r [], fun r i => ([] : List (Nat × Nat)).contains (r, i)⟩
theorem f19C : compF Go.Proofs.Try.prog f19A 19 = some f19 := by kernel_rfl

/-- switchboard/place.Right -/
abbrev f20o0 : List (Nat × Pop) := [
  (0, ⟨(some 1), .box 27 2 (.tmp 0), none⟩),
  (1, ⟨(some 2), .mv (.c (.t (.b false))), none⟩)]
abbrev f20r0 : Pc := .reg f20o0 [1] []
abbrev f20o1 : List (Nat × Pop) := [
  (0, ⟨(some 8), .fad 1 (.tmp 1), none⟩),
  (1, ⟨(some 9), .load false 1 (.tmp 8), none⟩),
  (2, ⟨(some 10), .lenL (.tmp 9), none⟩),
  (3, ⟨(some 11), .mv (.c (.t (.i .i64 0))), none⟩)]
abbrev f20r1 : Pc := .reg f20o1 [1, 9, 10, 11] []
abbrev f20o2 : List (Nat × Pop) := [
  (0, ⟨(some 12), .bin .lss (.tmp 11) (.tmp 10), none⟩)]
abbrev f20r2 : Pc := .reg f20o2 [1, 9, 10, 11, 12] []
abbrev f20o3 : List (Nat × Pop) := [
  (0, ⟨(some 13), .ixS 1 (.tmp 9) (.tmp 11), none⟩),
  (1, ⟨(some 14), .load false 1 (.tmp 13), none⟩),
  (2, ⟨(some 4), .mv (.tmp 14), none⟩)]
abbrev f20r3 : Pc := .reg f20o3 [1, 4, 9, 10, 11] []
abbrev f20o4 : List (Nat × Pop) := [
  (0, ⟨(some 5), .mv (.c (.t (.i .i64 0))), none⟩)]
abbrev f20r4 : Pc := .reg f20o4 [1, 4, 5, 9, 10, 11] []
abbrev f20o5 : List (Nat × Pop) := [
  (0, ⟨(some 15), .mv (.tmp 4), none⟩),
  (1, ⟨(some 16), .lenL (.tmp 15), none⟩),
  (2, ⟨(some 17), .mv (.c (.t (.i .i64 0))), none⟩)]
abbrev f20r5 : Pc := .reg f20o5 [1, 4, 5, 9, 10, 11, 15, 16, 17] []
abbrev f20o6 : List (Nat × Pop) := [
  (0, ⟨(some 18), .bin .lss (.tmp 17) (.tmp 16), none⟩)]
abbrev f20r6 : Pc := .reg f20o6 [1, 4, 5, 9, 10, 11, 15, 16, 17, 18] []
abbrev f20o7 : List (Nat × Pop) := [
  (0, ⟨(some 19), .ixS 1 (.tmp 15) (.tmp 17), none⟩),
  (1, ⟨(some 20), .load false 1 (.tmp 19), none⟩),
  (2, ⟨(some 7), .mv (.tmp 20), none⟩)]
abbrev f20r7 : Pc := .reg f20o7 [1, 4, 5, 7, 9, 10, 11, 15, 16, 17] []
abbrev f20o8 : List (Nat × Pop) := [
  (0, ⟨(some 21), .mv (.tmp 7), none⟩),
  (1, ⟨(some 22), .mv (.tmp 5), none⟩),
  (2, ⟨(some 23), .bin .leq (.tmp 21) (.tmp 22), none⟩),
  (3, ⟨(some 24), .mv (.tmp 23), none⟩),
  (4, ⟨(some 25), .mv (.tmp 7), (some (24, false))⟩),
  (5, ⟨(some 26), .bin .gtr (.tmp 25) (.c (.t (.i .i64 4))), (some (24, false))⟩),
  (6, ⟨(some 27), .pick (.tmp 24) (.c (.t (.b true))) (.tmp 26), none⟩)]
abbrev f20r8 : Pc := .reg f20o8 [1, 4, 7, 9, 10, 11, 15, 16, 17, 27] []
abbrev f20o9 : List (Nat × Pop) := [
  (0, ⟨(some 2), .mv (.c (.t (.b false))), none⟩)]
abbrev f20r9 : Pc := .reg f20o9 [2] [1]
abbrev f20o10 : List (Nat × Pop) := [
  (0, ⟨(some 28), .mv (.tmp 7), none⟩),
  (1, ⟨(some 5), .mv (.tmp 28), none⟩)]
abbrev f20r10 : Pc := .reg f20o10 [1, 4, 5, 9, 10, 11, 15, 16, 17] []
abbrev f20o11 : List (Nat × Pop) := [
  (0, ⟨(some 29), .bin .add (.tmp 17) (.c (.t (.i .i64 1))), none⟩),
  (1, ⟨(some 17), .mv (.tmp 29), none⟩)]
abbrev f20r11 : Pc := .reg f20o11 [1, 4, 5, 9, 10, 11, 15, 16, 17] []
def f20l0 : Pc := (.seq f20r6 (.seq (.cond (.tmp 18) .skip (.exit 2)) (.seq (.block 3 (.seq f20r7 (.seq (.seq f20r8 (.cond (.tmp 27) (.seq f20r9 .ret) .skip)) f20r10))) f20r11)))
theorem f20l0e (C : Cfg) (s : St) : evL C f20l0 s = evL C (.seq f20r6 (.seq (.cond (.tmp 18) .skip (.exit 2)) (.seq (.block 3 (.seq f20r7 (.seq (.seq f20r8 (.cond (.tmp 27) (.seq f20r9 .ret) .skip)) f20r10))) f20r11))) s := rfl
abbrev f20o12 : List (Nat × Pop) := [
  (0, ⟨(some 30), .mv (.tmp 4), none⟩),
  (1, ⟨(some 31), .lenL (.tmp 30), none⟩),
  (2, ⟨(some 32), .bin .eql (.tmp 31) (.c (.t (.i .i64 0))), none⟩)]
abbrev f20r12 : Pc := .reg f20o12 [1, 9, 10, 11, 32] []
abbrev f20o13 : List (Nat × Pop) := [
  (0, ⟨(some 2), .mv (.c (.t (.b false))), none⟩)]
abbrev f20r13 : Pc := .reg f20o13 [2] [1]
abbrev f20o14 : List (Nat × Pop) := [
  (0, ⟨(some 33), .bin .add (.tmp 11) (.c (.t (.i .i64 1))), none⟩),
  (1, ⟨(some 11), .mv (.tmp 33), none⟩)]
abbrev f20r14 : Pc := .reg f20o14 [1, 9, 10, 11] []
def f20l1 : Pc := (.seq f20r2 (.seq (.cond (.tmp 12) .skip (.exit 0)) (.seq (.block 1 (.seq f20r3 (.seq f20r4 (.seq (.seq f20r5 (.block 2 (.loop f20l0))) (.seq f20r12 (.cond (.tmp 32) (.seq f20r13 .ret) .skip)))))) f20r14)))
theorem f20l1e (C : Cfg) (s : St) : evL C f20l1 s = evL C (.seq f20r2 (.seq (.cond (.tmp 12) .skip (.exit 0)) (.seq (.block 1 (.seq f20r3 (.seq f20r4 (.seq (.seq f20r5 (.block 2 (.loop f20l0))) (.seq f20r12 (.cond (.tmp 32) (.seq f20r13 .ret) .skip)))))) f20r14))) s := rfl
abbrev f20o15 : List (Nat × Pop) := [
  (0, ⟨(some 34), .fad 0 (.tmp 1), none⟩),
  (1, ⟨(some 35), .load false 1 (.tmp 34), none⟩),
  (2, ⟨(some 36), .bin .geq (.tmp 35) (.c (.t (.i .i64 0))), none⟩),
  (3, ⟨(some 37), .mv (.tmp 36), none⟩),
  (4, ⟨(some 38), .fad 0 (.tmp 1), (some (37, true))⟩),
  (5, ⟨(some 39), .load false 1 (.tmp 38), (some (37, true))⟩),
  (6, ⟨(some 40), .bin .leq (.tmp 39) (.c (.t (.i .i64 2147483647))), (some (37, true))⟩),
  (7, ⟨(some 41), .pick (.tmp 37) (.tmp 40) (.c (.t (.b false))), none⟩),
  (8, ⟨(some 42), .mv (.tmp 41), none⟩),
  (9, ⟨(some 43), .fad 1 (.tmp 1), (some (42, true))⟩),
  (10, ⟨(some 44), .load false 1 (.tmp 43), (some (42, true))⟩),
  (11, ⟨(some 45), .lenL (.tmp 44), (some (42, true))⟩),
  (12, ⟨(some 46), .bin .leq (.tmp 45) (.c (.t (.i .i64 8))), (some (42, true))⟩),
  (13, ⟨(some 47), .pick (.tmp 42) (.tmp 46) (.c (.t (.b false))), none⟩),
  (14, ⟨(some 2), .mv (.tmp 47), none⟩)]
abbrev f20r15 : Pc := .reg f20o15 [2] [1]
abbrev f20b : Pc := (.seq f20r0 (.seq (.seq f20r1 (.block 0 (.loop f20l1))) (.seq f20r15 .ret)))
abbrev f20 : Pfn := ⟨1, 48, [.tmp 2], f20b⟩
def f20K : Array (List Nat) := #[[1], [1, 9, 10, 11], [1, 9, 10, 11, 12], [1, 4, 9, 10, 11], [1, 4, 5, 9, 10, 11], [1, 4, 5, 9, 10, 11, 15, 16, 17], [1, 4, 5, 9, 10, 11, 15, 16, 17, 18], [1, 4, 5, 7, 9, 10, 11, 15, 16, 17], [1, 4, 7, 9, 10, 11, 15, 16, 17, 27], [2], [1, 4, 5, 9, 10, 11, 15, 16, 17], [1, 4, 5, 9, 10, 11, 15, 16, 17], [1, 9, 10, 11, 32], [2], [1, 9, 10, 11], [2]]
def f20H : Array (List Nat) := #[[], [], [], [], [], [], [], [], [], [1], [], [], [], [1], [], [1]]
def f20A : Ann := ⟨fun r => f20K.getD r [], fun r => f20H.getD r [], fun r i => ([] : List (Nat × Nat)).contains (r, i)⟩
theorem f20C : compF Go.Proofs.Try.prog f20A 20 = some f20 := by kernel_rfl

/-- slices.ContainsFunc[[]switchboard/api.Layer,switchboard/api.Layer] -/
abbrev f21o0 : List (Nat × Pop) := [
  (0, ⟨(some 4), .mv (.c (.t (.b false))), none⟩)]
abbrev f21r0 : Pc := .reg f21o0 [0, 1] []
abbrev f21o1 : List (Nat × Pop) := [
  (0, ⟨(some 5), .mv (.tmp 0), none⟩),
  (1, ⟨(some 6), .mv (.tmp 1), none⟩),
  (2, ⟨(some 7), .call 42 [(.tmp 5), (.tmp 6)], none⟩),
  (3, ⟨(some 8), .bin .geq (.tmp 7) (.c (.t (.i .i64 0))), none⟩),
  (4, ⟨(some 4), .mv (.tmp 8), none⟩)]
abbrev f21r1 : Pc := .reg f21o1 [4] []
abbrev f21b : Pc := (.seq f21r0 (.seq f21r1 .ret))
abbrev f21 : Pfn := ⟨2, 9, [.tmp 4], f21b⟩
def f21K : Array (List Nat) := #[[0, 1], [4]]
def f21H : Array (List Nat) := #[[], []]
def f21A : Ann := ⟨fun r => f21K.getD r [], fun r => f21H.getD r [], fun r i => ([] : List (Nat × Nat)).contains (r, i)⟩
theorem f21C : compF Go.Proofs.Try.prog f21A 21 = some f21 := by kernel_rfl

/-- switchboard/fleet.New$1 -/
abbrev f22o0 : List (Nat × Pop) := [
  (0, ⟨(some 2), .box 46 3 (.tmp 0), none⟩),
  (1, ⟨(some 3), .mv (.c (.t (.b false))), none⟩)]
abbrev f22r0 : Pc := .reg f22o0 [1, 2] []
abbrev f22o1 : List (Nat × Pop) := [
  (0, ⟨(some 4), .fad 1 (.tmp 2), none⟩),
  (1, ⟨(some 5), .load false 1 (.tmp 4), none⟩),
  (2, ⟨(some 6), .lenL (.tmp 5), none⟩),
  (3, ⟨(some 7), .fad 1 (.tmp 1), none⟩),
  (4, ⟨(some 8), .load false 1 (.tmp 7), none⟩),
  (5, ⟨(some 9), .lenL (.tmp 8), none⟩),
  (6, ⟨(some 10), .bin .gtr (.tmp 6) (.tmp 9), none⟩),
  (7, ⟨(some 3), .mv (.tmp 10), none⟩)]
abbrev f22r1 : Pc := .reg f22o1 [3] [2]
abbrev f22b : Pc := (.seq f22r0 (.seq f22r1 .ret))
abbrev f22 : Pfn := ⟨2, 11, [.tmp 3], f22b⟩
def f22K : Array (List Nat) := #[[1, 2], [3]]
def f22H : Array (List Nat) := #[[], [2]]
def f22A : Ann := ⟨fun r => f22K.getD r [], fun r => f22H.getD r [], fun r i => ([] : List (Nat × Nat)).contains (r, i)⟩
theorem f22C : compF Go.Proofs.Try.prog f22A 22 = some f22 := by kernel_rfl

/-- slices.Clone[[][]int,[]int] -/
abbrev f23o0 : List (Nat × Pop) := [
  (0, ⟨(some 2), .nilv 49 1, none⟩)]
abbrev f23r0 : Pc := .reg f23o0 [0] [2, 5, 7]
abbrev f23o1 : List (Nat × Pop) := [
  (0, ⟨(some 3), .mv (.tmp 0), none⟩),
  (1, ⟨(some 4), .isnilS false (.tmp 3), none⟩)]
abbrev f23r1 : Pc := .reg f23o1 [0, 4] []
abbrev f23o2 : List (Nat × Pop) := [
  (0, ⟨(some 2), .nilv 49 1, none⟩)]
abbrev f23r2 : Pc := .reg f23o2 [2] []
abbrev f23o3 : List (Nat × Pop) := [
  (0, ⟨(some 5), .bslO 49 1 [], none⟩),
  (1, ⟨(some 6), .mv (.tmp 0), none⟩),
  (2, ⟨(some 7), .app 49 1 24 (.tmp 5) (.tmp 6), none⟩),
  (3, ⟨(some 2), .mv (.tmp 7), none⟩)]
abbrev f23r3 : Pc := .reg f23o3 [2] []
abbrev f23b : Pc := (.seq f23r0 (.seq (.seq f23r1 (.cond (.tmp 4) (.seq f23r2 .ret) .skip)) (.seq f23r3 .ret)))
abbrev f23 : Pfn := ⟨1, 8, [.tmp 2], f23b⟩
def f23K : Array (List Nat) := #[[0], [0, 4], [2], [2]]
def f23H : Array (List Nat) := #[[2, 5, 7], [], [], []]
def f23A : Ann := ⟨fun r => f23K.getD r [], fun r => f23H.getD r [], fun r i => ([(3, 0), (3, 0)] : List (Nat × Nat)).contains (r, i)⟩
theorem f23C : compF Go.Proofs.Try.prog f23A 23 = some f23 := by kernel_rfl

/-- (*switchboard/fleet.Fleet).begin -/
abbrev f24o0 : List (Nat × Pop) := [
  (0, ⟨(some 2), .mv (.tmp 0), none⟩),
  (1, ⟨(some 3), .nchk (.tmp 2), none⟩),
  (2, ⟨(some 4), .fad 11 (.tmp 3), none⟩),
  (3, ⟨(some 5), .load false 1 (.tmp 4), none⟩),
  (4, ⟨(some 6), .mv (.tmp 0), none⟩),
  (5, ⟨(some 7), .nchk (.tmp 6), none⟩),
  (6, ⟨(some 8), .fad 0 (.tmp 7), none⟩),
  (7, ⟨(some 9), .fad 1 (.tmp 8), none⟩),
  (8, ⟨(some 10), .load false 1 (.tmp 9), none⟩),
  (9, ⟨(some 11), .lenL (.tmp 10), none⟩),
  (10, ⟨(some 12), .bin .geq (.tmp 5) (.tmp 11), none⟩)]
abbrev f24r0 : Pc := .reg f24o0 [0, 12] []
abbrev f24o1 : List (Nat × Pop) := [
  (0, ⟨(some 13), .mv (.tmp 0), none⟩),
  (1, ⟨(some 14), .mv (.tmp 0), none⟩),
  (2, ⟨(some 15), .nchk (.tmp 14), none⟩),
  (3, ⟨(some 16), .fad 0 (.tmp 15), none⟩),
  (4, ⟨(some 17), .fad 1 (.tmp 16), none⟩),
  (5, ⟨(some 18), .load false 1 (.tmp 17), none⟩),
  (6, ⟨(some 19), .mv (.tmp 0), none⟩),
  (7, ⟨(some 20), .nchk (.tmp 19), none⟩),
  (8, ⟨(some 21), .fad 11 (.tmp 20), none⟩),
  (9, ⟨(some 22), .load false 1 (.tmp 21), none⟩),
  (10, ⟨(some 23), .ixS 3 (.tmp 18) (.tmp 22), none⟩),
  (11, ⟨(some 24), .load true 3 (.tmp 23), none⟩),
  (12, ⟨(some 25), .mv (.tmp 0), none⟩),
  (13, ⟨(some 26), .nchk (.tmp 25), none⟩),
  (14, ⟨(some 27), .fad 10 (.tmp 26), none⟩),
  (15, ⟨(some 28), .load false 1 (.tmp 27), none⟩),
  (16, ⟨(some 29), .callq 43 [(.tmp 24), (.tmp 28)], none⟩),
  (17, ⟨(some 30), .nchk (.tmp 13), none⟩),
  (18, ⟨(some 31), .fad 12 (.tmp 30), none⟩),
  (19, ⟨none, .store 1 (.tmp 31) (.tmp 29), none⟩)]
abbrev f24r1 : Pc := .reg f24o1 [0] []
abbrev f24o2 : List (Nat × Pop) := [
  (0, ⟨(some 32), .mv (.tmp 0), none⟩),
  (1, ⟨(some 33), .mv (.tmp 0), none⟩),
  (2, ⟨(some 34), .nchk (.tmp 33), none⟩),
  (3, ⟨(some 35), .fad 12 (.tmp 34), none⟩),
  (4, ⟨(some 36), .load false 1 (.tmp 35), none⟩),
  (5, ⟨(some 37), .lenL (.tmp 36), none⟩),
  (6, ⟨(some 38), .mks 49 1 24 [(.l [])] (.tmp 37) (.tmp 37), none⟩),
  (7, ⟨(some 39), .nchk (.tmp 32), none⟩),
  (8, ⟨(some 40), .fad 13 (.tmp 39), none⟩),
  (9, ⟨none, .store 1 (.tmp 40) (.tmp 38), none⟩)]
abbrev f24r2 : Pc := .reg f24o2 [0] []
abbrev f24o3 : List (Nat × Pop) := [
  (0, ⟨(some 41), .mv (.tmp 0), none⟩),
  (1, ⟨(some 42), .mv (.tmp 0), none⟩),
  (2, ⟨(some 43), .nchk (.tmp 42), none⟩),
  (3, ⟨(some 44), .fad 12 (.tmp 43), none⟩),
  (4, ⟨(some 45), .load false 1 (.tmp 44), none⟩),
  (5, ⟨(some 46), .lenL (.tmp 45), none⟩),
  (6, ⟨(some 47), .mks 4 1 1 [(.b false)] (.tmp 46) (.tmp 46), none⟩),
  (7, ⟨(some 48), .nchk (.tmp 41), none⟩),
  (8, ⟨(some 49), .fad 14 (.tmp 48), none⟩),
  (9, ⟨none, .store 1 (.tmp 49) (.tmp 47), none⟩)]
abbrev f24r3 : Pc := .reg f24o3 [0] []
abbrev f24o4 : List (Nat × Pop) := [
  (0, ⟨(some 50), .mv (.tmp 0), none⟩),
  (1, ⟨(some 51), .call 12 [(.tmp 50)], none⟩)]
abbrev f24r4 : Pc := .reg f24o4 [] []
abbrev f24b : Pc := (.seq (.seq f24r0 (.cond (.tmp 12) .ret .skip)) (.seq f24r1 (.seq f24r2 (.seq f24r3 f24r4))))
abbrev f24 : Pfn := ⟨1, 52, [], f24b⟩
def f24K : Array (List Nat) := #[[0, 12], [0], [0], [0], []]
def f24H : Array (List Nat) := #[[], [], [], [], []]
def f24A : Ann := ⟨fun r => f24K.getD r [], fun r => f24H.getD r [], fun r i => ([] : List (Nat × Nat)).contains (r, i)⟩
theorem f24C : compF Go.Proofs.Try.prog f24A 24 = some f24 := by kernel_rfl

/-- (*switchboard/fleet.Fleet).come -/
abbrev f25o0 : List (Nat × Pop) := [
  (0, ⟨(some 2), .mv (.tmp 0), none⟩),
  (1, ⟨(some 3), .nchk (.tmp 2), none⟩),
  (2, ⟨(some 4), .fad 11 (.tmp 3), none⟩),
  (3, ⟨(some 5), .load false 1 (.tmp 4), none⟩),
  (4, ⟨(some 6), .mv (.tmp 0), none⟩),
  (5, ⟨(some 7), .nchk (.tmp 6), none⟩),
  (6, ⟨(some 8), .fad 0 (.tmp 7), none⟩),
  (7, ⟨(some 9), .fad 1 (.tmp 8), none⟩),
  (8, ⟨(some 10), .load false 1 (.tmp 9), none⟩),
  (9, ⟨(some 11), .lenL (.tmp 10), none⟩),
  (10, ⟨(some 12), .bin .lss (.tmp 5) (.tmp 11), none⟩),
  (11, ⟨(some 13), .mv (.tmp 12), none⟩),
  (12, ⟨(some 14), .mv (.tmp 0), (some (13, true))⟩),
  (13, ⟨(some 15), .nchk (.tmp 14), (some (13, true))⟩),
  (14, ⟨(some 16), .fad 14 (.tmp 15), (some (13, true))⟩),
  (15, ⟨(some 17), .load false 1 (.tmp 16), (some (13, true))⟩),
  (16, ⟨(some 18), .callq 44 [(.tmp 17), (.c (.t (.b false)))], (some (13, true))⟩),
  (17, ⟨(some 19), .un .not (.tmp 18), (some (13, true))⟩),
  (18, ⟨(some 20), .pick (.tmp 13) (.tmp 19) (.c (.t (.b false))), none⟩)]
abbrev f25r0 : Pc := .reg f25o0 [0, 20] []
abbrev f25o1 : List (Nat × Pop) := [
  (0, ⟨(some 21), .mv (.tmp 0), none⟩),
  (1, ⟨(some 22), .mv (.tmp 0), none⟩),
  (2, ⟨(some 23), .nchk (.tmp 22), none⟩),
  (3, ⟨(some 24), .fad 10 (.tmp 23), none⟩),
  (4, ⟨(some 25), .load false 1 (.tmp 24), none⟩),
  (5, ⟨(some 26), .mv (.tmp 0), none⟩),
  (6, ⟨(some 27), .nchk (.tmp 26), none⟩),
  (7, ⟨(some 28), .fad 12 (.tmp 27), none⟩),
  (8, ⟨(some 29), .load false 1 (.tmp 28), none⟩),
  (9, ⟨(some 30), .mv (.tmp 0), none⟩),
  (10, ⟨(some 31), .nchk (.tmp 30), none⟩),
  (11, ⟨(some 32), .fad 13 (.tmp 31), none⟩),
  (12, ⟨(some 33), .load false 1 (.tmp 32), none⟩),
  (13, ⟨(some 34), .call 45 [(.tmp 25), (.tmp 29), (.tmp 33)], none⟩),
  (14, ⟨(some 35), .nchk (.tmp 21), none⟩),
  (15, ⟨(some 36), .fad 10 (.tmp 35), none⟩),
  (16, ⟨none, .store 1 (.tmp 36) (.tmp 34), none⟩)]
abbrev f25r1 : Pc := .reg f25o1 [0] []
abbrev f25o2 : List (Nat × Pop) := [
  (0, ⟨(some 37), .mv (.tmp 0), none⟩),
  (1, ⟨(some 38), .nchk (.tmp 37), none⟩),
  (2, ⟨(some 39), .fad 11 (.tmp 38), none⟩),
  (3, ⟨(some 40), .load false 1 (.tmp 39), none⟩),
  (4, ⟨(some 41), .bin .add (.tmp 40) (.c (.t (.i .i64 1))), none⟩),
  (5, ⟨(some 42), .nchk (.tmp 37), none⟩),
  (6, ⟨(some 43), .fad 11 (.tmp 42), none⟩),
  (7, ⟨none, .store 1 (.tmp 43) (.tmp 41), none⟩)]
abbrev f25r2 : Pc := .reg f25o2 [0] []
abbrev f25o3 : List (Nat × Pop) := [
  (0, ⟨(some 44), .mv (.tmp 0), none⟩),
  (1, ⟨(some 45), .call 24 [(.tmp 44)], none⟩)]
abbrev f25r3 : Pc := .reg f25o3 [0] []
def f25l0 : Pc := (.seq (.seq f25r0 (.cond (.tmp 20) .skip (.exit 0))) (.block 1 (.seq f25r1 (.seq f25r2 f25r3))))
theorem f25l0e (C : Cfg) (s : St) : evL C f25l0 s = evL C (.seq (.seq f25r0 (.cond (.tmp 20) .skip (.exit 0))) (.block 1 (.seq f25r1 (.seq f25r2 f25r3)))) s := rfl
abbrev f25b : Pc := (.block 0 (.loop f25l0))
abbrev f25 : Pfn := ⟨1, 46, [], f25b⟩
def f25K : Array (List Nat) := #[[0, 20], [0], [0], [0]]
def f25H : Array (List Nat) := #[[], [], [], []]
def f25A : Ann := ⟨fun r => f25K.getD r [], fun r => f25H.getD r [], fun r i => ([(1, 2013)] : List (Nat × Nat)).contains (r, i)⟩
theorem f25C : compF Go.Proofs.Try.prog f25A 25 = some f25 := by kernel_rfl

/-- slices.Clone[[]string,string] -/
abbrev f26o0 : List (Nat × Pop) := [
  (0, ⟨(some 2), .nilv 9 1, none⟩)]
abbrev f26r0 : Pc := .reg f26o0 [0] [2, 5, 7]
abbrev f26o1 : List (Nat × Pop) := [
  (0, ⟨(some 3), .mv (.tmp 0), none⟩),
  (1, ⟨(some 4), .isnilS false (.tmp 3), none⟩)]
abbrev f26r1 : Pc := .reg f26o1 [0, 4] []
abbrev f26o2 : List (Nat × Pop) := [
  (0, ⟨(some 2), .nilv 9 1, none⟩)]
abbrev f26r2 : Pc := .reg f26o2 [2] []
abbrev f26o3 : List (Nat × Pop) := [
  (0, ⟨(some 5), .bslO 9 1 [], none⟩),
  (1, ⟨(some 6), .mv (.tmp 0), none⟩),
  (2, ⟨(some 7), .app 9 1 16 (.tmp 5) (.tmp 6), none⟩),
  (3, ⟨(some 2), .mv (.tmp 7), none⟩)]
abbrev f26r3 : Pc := .reg f26o3 [2] []
abbrev f26b : Pc := (.seq f26r0 (.seq (.seq f26r1 (.cond (.tmp 4) (.seq f26r2 .ret) .skip)) (.seq f26r3 .ret)))
abbrev f26 : Pfn := ⟨1, 8, [.tmp 2], f26b⟩
def f26K : Array (List Nat) := #[[0], [0, 4], [2], [2]]
def f26H : Array (List Nat) := #[[2, 5, 7], [], [], []]
def f26A : Ann := ⟨fun r => f26K.getD r [], fun r => f26H.getD r [], fun r i => ([(3, 0), (3, 0)] : List (Nat × Nat)).contains (r, i)⟩
theorem f26C : compF Go.Proofs.Try.prog f26A 26 = some f26 := by kernel_rfl

/-- switchboard/bag.Take -/
abbrev f27o0 : List (Nat × Pop) := [
  (0, ⟨(some 4), .mv (.c (.t (.s []))), none⟩),
  (1, ⟨(some 5), .nilv 9 1, none⟩),
  (2, ⟨(some 6), .mv (.c (.t (.b false))), none⟩)]
abbrev f27r0 : Pc := .reg f27o0 [0, 1] [5, 16, 22]
abbrev f27o1 : List (Nat × Pop) := [
  (0, ⟨(some 7), .mv (.tmp 1), none⟩),
  (1, ⟨(some 8), .bin .lss (.tmp 7) (.c (.t (.i .i64 0))), none⟩),
  (2, ⟨(some 9), .mv (.tmp 8), none⟩),
  (3, ⟨(some 10), .mv (.tmp 1), (some (9, false))⟩),
  (4, ⟨(some 11), .mv (.tmp 0), (some (9, false))⟩),
  (5, ⟨(some 12), .lenL (.tmp 11), (some (9, false))⟩),
  (6, ⟨(some 13), .bin .geq (.tmp 10) (.tmp 12), (some (9, false))⟩),
  (7, ⟨(some 14), .pick (.tmp 9) (.c (.t (.b true))) (.tmp 13), none⟩)]
abbrev f27r1 : Pc := .reg f27o1 [0, 1, 14] []
abbrev f27o2 : List (Nat × Pop) := [
  (0, ⟨(some 15), .mv (.tmp 0), none⟩),
  (1, ⟨(some 16), .call 26 [(.tmp 15)], none⟩),
  (2, ⟨(some 4), .mv (.c (.t (.s []))), none⟩),
  (3, ⟨(some 5), .mv (.tmp 16), none⟩),
  (4, ⟨(some 6), .mv (.c (.t (.b false))), none⟩)]
abbrev f27r2 : Pc := .reg f27o2 [4, 5, 6] []
abbrev f27o3 : List (Nat × Pop) := [
  (0, ⟨(some 17), .mv (.tmp 0), none⟩),
  (1, ⟨(some 18), .mv (.tmp 1), none⟩),
  (2, ⟨(some 19), .ixS 1 (.tmp 17) (.tmp 18), none⟩),
  (3, ⟨(some 20), .loadB false 1 (.tmp 19), none⟩),
  (4, ⟨(some 21), .mv (.tmp 0), none⟩),
  (5, ⟨(some 22), .callo 26 [(.tmp 21)], none⟩),
  (6, ⟨(some 23), .mv (.tmp 1), none⟩),
  (7, ⟨(some 24), .mv (.tmp 1), none⟩),
  (8, ⟨(some 25), .bin .add (.tmp 24) (.c (.t (.i .i64 1))), none⟩),
  (9, ⟨(some 26), .callR 46 [(.tmp 22), (.tmp 23), (.tmp 25)], none⟩),
  (10, ⟨(some 4), .mv (.tmp 20), none⟩),
  (11, ⟨(some 5), .mv (.tmp 26), none⟩),
  (12, ⟨(some 6), .mv (.c (.t (.b true))), none⟩)]
abbrev f27r3 : Pc := .reg f27o3 [4, 5, 6] []
abbrev f27b : Pc := (.seq f27r0 (.seq (.seq f27r1 (.cond (.tmp 14) (.seq f27r2 .ret) .skip)) (.seq f27r3 .ret)))
abbrev f27 : Pfn := ⟨2, 27, [.tmp 4, .tmp 5, .tmp 6], f27b⟩
def f27K : Array (List Nat) := #[[0, 1], [0, 1, 14], [4, 5, 6], [4, 5, 6]]
def f27H : Array (List Nat) := #[[5, 16, 22], [], [], []]
def f27A : Ann := ⟨fun r => f27K.getD r [], fun r => f27H.getD r [], fun r i => ([(3, 5), (3, 1009), (3, 3)] : List (Nat × Nat)).contains (r, i)⟩
theorem f27C : compF Go.Proofs.Try.prog f27A 27 = some f27 := by kernel_rfl

/-- switchboard/place.Pick -/
abbrev f28o0 : List (Nat × Pop) := [
  (0, ⟨(some 3), .box 27 2 (.tmp 0), none⟩),
  (1, ⟨(some 6), .mv (.c (.t (.i .i64 0))), none⟩),
  (2, ⟨(some 7), .mv (.c (.t (.b false))), none⟩)]
abbrev f28r0 : Pc := .reg f28o0 [1, 2, 3] []
abbrev f28o1 : List (Nat × Pop) := [
  (0, ⟨(some 9), .load true 2 (.tmp 3), none⟩),
  (1, ⟨(some 10), .call 20 [(.tmp 9)], none⟩),
  (2, ⟨(some 11), .un .not (.tmp 10), none⟩),
  (3, ⟨(some 12), .mv (.tmp 11), none⟩),
  (4, ⟨(some 13), .mv (.tmp 1), (some (12, false))⟩),
  (5, ⟨(some 14), .bin .lss (.tmp 13) (.c (.t (.i .i64 0))), (some (12, false))⟩),
  (6, ⟨(some 15), .pick (.tmp 12) (.c (.t (.b true))) (.tmp 14), none⟩),
  (7, ⟨(some 16), .mv (.tmp 15), none⟩),
  (8, ⟨(some 17), .mv (.tmp 1), (some (16, false))⟩),
  (9, ⟨(some 18), .fad 1 (.tmp 3), (some (16, false))⟩),
  (10, ⟨(some 19), .load false 1 (.tmp 18), (some (16, false))⟩),
  (11, ⟨(some 20), .lenL (.tmp 19), (some (16, false))⟩),
  (12, ⟨(some 21), .bin .geq (.tmp 17) (.tmp 20), (some (16, false))⟩),
  (13, ⟨(some 22), .pick (.tmp 16) (.c (.t (.b true))) (.tmp 21), none⟩),
  (14, ⟨(some 23), .mv (.tmp 22), none⟩),
  (15, ⟨(some 24), .mv (.tmp 2), (some (23, false))⟩),
  (16, ⟨(some 25), .bin .lss (.tmp 24) (.c (.t (.i .i64 0))), (some (23, false))⟩),
  (17, ⟨(some 26), .pick (.tmp 23) (.c (.t (.b true))) (.tmp 25), none⟩)]
abbrev f28r1 : Pc := .reg f28o1 [1, 2, 3, 26] []
abbrev f28o2 : List (Nat × Pop) := [
  (0, ⟨(some 6), .mv (.c (.t (.i .i64 0))), none⟩),
  (1, ⟨(some 7), .mv (.c (.t (.b false))), none⟩)]
abbrev f28r2 : Pc := .reg f28o2 [6, 7] [3]
abbrev f28o3 : List (Nat × Pop) := [
  (0, ⟨(some 27), .fad 1 (.tmp 3), none⟩),
  (1, ⟨(some 28), .load false 1 (.tmp 27), none⟩),
  (2, ⟨(some 29), .mv (.tmp 1), none⟩),
  (3, ⟨(some 30), .ixS 1 (.tmp 28) (.tmp 29), none⟩),
  (4, ⟨(some 31), .load false 1 (.tmp 30), none⟩),
  (5, ⟨(some 8), .mv (.tmp 31), none⟩)]
abbrev f28r3 : Pc := .reg f28o3 [2, 8] [3]
abbrev f28o4 : List (Nat × Pop) := [
  (0, ⟨(some 32), .mv (.tmp 8), none⟩),
  (1, ⟨(some 33), .mv (.tmp 2), none⟩),
  (2, ⟨(some 34), .mv (.tmp 8), none⟩),
  (3, ⟨(some 35), .lenL (.tmp 34), none⟩),
  (4, ⟨(some 36), .bin .rem (.tmp 33) (.tmp 35), none⟩),
  (5, ⟨(some 37), .ixS 1 (.tmp 32) (.tmp 36), none⟩),
  (6, ⟨(some 38), .load false 1 (.tmp 37), none⟩),
  (7, ⟨(some 6), .mv (.tmp 38), none⟩),
  (8, ⟨(some 7), .mv (.c (.t (.b true))), none⟩)]
abbrev f28r4 : Pc := .reg f28o4 [6, 7] []
abbrev f28b : Pc := (.seq f28r0 (.seq (.seq f28r1 (.cond (.tmp 26) (.seq f28r2 .ret) .skip)) (.seq f28r3 (.seq f28r4 .ret))))
abbrev f28 : Pfn := ⟨3, 39, [.tmp 6, .tmp 7], f28b⟩
def f28K : Array (List Nat) := #[[1, 2, 3], [1, 2, 3, 26], [6, 7], [2, 8], [6, 7]]
def f28H : Array (List Nat) := #[[], [], [3], [3], []]
def f28A : Ann := ⟨fun r => f28K.getD r [], fun r => f28H.getD r [], fun r i => ([] : List (Nat × Nat)).contains (r, i)⟩
theorem f28C : compF Go.Proofs.Try.prog f28A 28 = some f28 := by kernel_rfl

/-- (*switchboard/fleet.Fleet).send -/
abbrev f29o0 : List (Nat × Pop) := [
  (0, ⟨(some 3), .box 71 11 (.tmp 1), none⟩)]
abbrev f29r0 : Pc := .reg f29o0 [0, 3] []
abbrev f29o1 : List (Nat × Pop) := [
  (0, ⟨(some 7), .load true 11 (.tmp 3), none⟩),
  (1, ⟨(some 8), .call 47 [(.tmp 7)], none⟩),
  (2, ⟨(some 6), .mv (.tmp 8), none⟩),
  (3, ⟨(some 9), .ext 0 (.tmp 6), none⟩),
  (4, ⟨(some 10), .ext 1 (.tmp 6), none⟩),
  (5, ⟨(some 4), .mv (.tmp 9), none⟩),
  (6, ⟨(some 5), .mv (.tmp 10), none⟩)]
abbrev f29r1 : Pc := .reg f29o1 [0, 4, 5] []
abbrev f29o2 : List (Nat × Pop) := [
  (0, ⟨(some 11), .mv (.tmp 5), none⟩),
  (1, ⟨(some 12), .bin .eql (.tmp 11) (.c (.t (.i .i64 0))), none⟩)]
abbrev f29r2 : Pc := .reg f29o2 [0, 4, 12] []
abbrev f29o3 : List (Nat × Pop) := [
  (0, ⟨(some 13), .mv (.tmp 0), none⟩),
  (1, ⟨(some 14), .mv (.tmp 0), none⟩),
  (2, ⟨(some 15), .nchk (.tmp 14), none⟩),
  (3, ⟨(some 16), .fad 9 (.tmp 15), none⟩),
  (4, ⟨(some 17), .load false 1 (.tmp 16), none⟩),
  (5, ⟨(some 18), .mv (.tmp 4), none⟩),
  (6, ⟨(some 19), .call 48 [(.tmp 17), (.tmp 18)], none⟩),
  (7, ⟨(some 20), .nchk (.tmp 13), none⟩),
  (8, ⟨(some 21), .fad 9 (.tmp 20), none⟩),
  (9, ⟨none, .store 1 (.tmp 21) (.tmp 19), none⟩)]
abbrev f29r3 : Pc := .reg f29o3 [] []
abbrev f29b : Pc := (.seq f29r0 (.seq f29r1 (.seq f29r2 (.cond (.tmp 12) f29r3 .skip))))
abbrev f29 : Pfn := ⟨2, 22, [], f29b⟩
def f29K : Array (List Nat) := #[[0, 3], [0, 4, 5], [0, 4, 12], []]
def f29H : Array (List Nat) := #[[], [], [], []]
def f29A : Ann := ⟨fun r => f29K.getD r [], fun r => f29H.getD r [], fun r i => ([] : List (Nat × Nat)).contains (r, i)⟩
theorem f29C : compF Go.Proofs.Try.prog f29A 29 = some f29 := by kernel_rfl

/-- switchboard/switchboardref03.Right -/
abbrev f30o0 : List (Nat × Pop) := [
  (0, ⟨(some 6), .mv (.c (.t (.b false))), none⟩)]
abbrev f30r0 : Pc := .reg f30o0 [0, 1, 2] []
abbrev f30o1 : List (Nat × Pop) := [
  (0, ⟨(some 9), .mv (.tmp 0), none⟩),
  (1, ⟨(some 10), .lenL (.tmp 9), none⟩),
  (2, ⟨(some 11), .mv (.tmp 1), none⟩),
  (3, ⟨(some 12), .bin .neq (.tmp 10) (.tmp 11), none⟩)]
abbrev f30r1 : Pc := .reg f30o1 [0, 2, 12] []
abbrev f30o2 : List (Nat × Pop) := [
  (0, ⟨(some 6), .mv (.c (.t (.b false))), none⟩)]
abbrev f30r2 : Pc := .reg f30o2 [6] []
abbrev f30o3 : List (Nat × Pop) := [
  (0, ⟨(some 7), .mv (.c (.t (.i .i64 0))), none⟩)]
abbrev f30r3 : Pc := .reg f30o3 [0, 2, 7] []
abbrev f30o4 : List (Nat × Pop) := [
  (0, ⟨(some 13), .mv (.tmp 7), none⟩),
  (1, ⟨(some 14), .mv (.tmp 0), none⟩),
  (2, ⟨(some 15), .lenL (.tmp 14), none⟩),
  (3, ⟨(some 16), .bin .lss (.tmp 13) (.tmp 15), none⟩)]
abbrev f30r4 : Pc := .reg f30o4 [0, 2, 7, 16] []
abbrev f30o6 : List (Nat × Pop) := [
  (0, ⟨(some 19), .mv (.tmp 0), none⟩),
  (1, ⟨(some 20), .mv (.tmp 7), none⟩),
  (2, ⟨(some 21), .ixS 1 (.tmp 19) (.tmp 20), none⟩),
  (3, ⟨(some 22), .load false 1 (.tmp 21), none⟩),
  (4, ⟨(some 23), .lenL (.tmp 22), none⟩),
  (5, ⟨(some 24), .mv (.tmp 2), none⟩),
  (6, ⟨(some 25), .bin .neq (.tmp 23) (.tmp 24), none⟩)]
abbrev f30r6 : Pc := .reg f30o6 [0, 2, 7, 25] []
abbrev f30o7 : List (Nat × Pop) := [
  (0, ⟨(some 6), .mv (.c (.t (.b false))), none⟩)]
abbrev f30r7 : Pc := .reg f30o7 [6] []
abbrev f30o8 : List (Nat × Pop) := [
  (0, ⟨(some 8), .mv (.c (.t (.i .i64 0))), none⟩)]
abbrev f30r8 : Pc := .reg f30o8 [0, 2, 7, 8] []
abbrev f30o9 : List (Nat × Pop) := [
  (0, ⟨(some 26), .mv (.tmp 8), none⟩),
  (1, ⟨(some 27), .mv (.tmp 0), none⟩),
  (2, ⟨(some 28), .mv (.tmp 7), none⟩),
  (3, ⟨(some 29), .ixS 1 (.tmp 27) (.tmp 28), none⟩),
  (4, ⟨(some 30), .load false 1 (.tmp 29), none⟩),
  (5, ⟨(some 31), .lenL (.tmp 30), none⟩),
  (6, ⟨(some 32), .bin .lss (.tmp 26) (.tmp 31), none⟩)]
abbrev f30r9 : Pc := .reg f30o9 [0, 2, 7, 8, 32] []
abbrev f30o11 : List (Nat × Pop) := [
  (0, ⟨(some 35), .mv (.tmp 0), none⟩),
  (1, ⟨(some 36), .mv (.tmp 7), none⟩),
  (2, ⟨(some 37), .ixS 1 (.tmp 35) (.tmp 36), none⟩),
  (3, ⟨(some 38), .load false 1 (.tmp 37), none⟩),
  (4, ⟨(some 39), .mv (.tmp 8), none⟩),
  (5, ⟨(some 40), .ixS 1 (.tmp 38) (.tmp 39), none⟩),
  (6, ⟨(some 41), .load false 1 (.tmp 40), none⟩),
  (7, ⟨(some 42), .bin .gtr (.tmp 41) (.c (.t (.i .i64 2147483647))), none⟩),
  (8, ⟨(some 43), .mv (.tmp 42), none⟩),
  (9, ⟨(some 44), .mv (.tmp 0), (some (43, false))⟩),
  (10, ⟨(some 45), .mv (.tmp 7), (some (43, false))⟩),
  (11, ⟨(some 46), .ixS 1 (.tmp 44) (.tmp 45), (some (43, false))⟩),
  (12, ⟨(some 47), .load false 1 (.tmp 46), (some (43, false))⟩),
  (13, ⟨(some 48), .mv (.tmp 8), (some (43, false))⟩),
  (14, ⟨(some 49), .ixS 1 (.tmp 47) (.tmp 48), (some (43, false))⟩),
  (15, ⟨(some 50), .load false 1 (.tmp 49), (some (43, false))⟩),
  (16, ⟨(some 51), .bin .lss (.tmp 50) (.c (.t (.i .i64 (-2147483647)))), (some (43, false))⟩),
  (17, ⟨(some 52), .pick (.tmp 43) (.c (.t (.b true))) (.tmp 51), none⟩)]
abbrev f30r11 : Pc := .reg f30o11 [0, 2, 7, 8, 52] []
abbrev f30o12 : List (Nat × Pop) := [
  (0, ⟨(some 6), .mv (.c (.t (.b false))), none⟩)]
abbrev f30r12 : Pc := .reg f30o12 [6] []
abbrev f30o10 : List (Nat × Pop) := [
  (0, ⟨(some 33), .mv (.tmp 8), none⟩),
  (1, ⟨(some 34), .bin .add (.tmp 33) (.c (.t (.i .i64 1))), none⟩),
  (2, ⟨(some 8), .mv (.tmp 34), none⟩)]
abbrev f30r10 : Pc := .reg f30o10 [0, 2, 7, 8] []
def f30l0 : Pc := (.seq (.seq f30r9 (.cond (.tmp 32) .skip (.exit 2))) (.seq (.block 3 (.seq f30r11 (.cond (.tmp 52) (.seq f30r12 .ret) .skip))) f30r10))
theorem f30l0e (C : Cfg) (s : St) : evL C f30l0 s = evL C (.seq (.seq f30r9 (.cond (.tmp 32) .skip (.exit 2))) (.seq (.block 3 (.seq f30r11 (.cond (.tmp 52) (.seq f30r12 .ret) .skip))) f30r10)) s := rfl
abbrev f30o5 : List (Nat × Pop) := [
  (0, ⟨(some 17), .mv (.tmp 7), none⟩),
  (1, ⟨(some 18), .bin .add (.tmp 17) (.c (.t (.i .i64 1))), none⟩),
  (2, ⟨(some 7), .mv (.tmp 18), none⟩)]
abbrev f30r5 : Pc := .reg f30o5 [0, 2, 7] []
def f30l1 : Pc := (.seq (.seq f30r4 (.cond (.tmp 16) .skip (.exit 0))) (.seq (.block 1 (.seq (.seq f30r6 (.cond (.tmp 25) (.seq f30r7 .ret) .skip)) (.seq f30r8 (.block 2 (.loop f30l0))))) f30r5))
theorem f30l1e (C : Cfg) (s : St) : evL C f30l1 s = evL C (.seq (.seq f30r4 (.cond (.tmp 16) .skip (.exit 0))) (.seq (.block 1 (.seq (.seq f30r6 (.cond (.tmp 25) (.seq f30r7 .ret) .skip)) (.seq f30r8 (.block 2 (.loop f30l0))))) f30r5)) s := rfl
abbrev f30o13 : List (Nat × Pop) := [
  (0, ⟨(some 6), .mv (.c (.t (.b true))), none⟩)]
abbrev f30r13 : Pc := .reg f30o13 [6] []
abbrev f30b : Pc := (.seq f30r0 (.seq (.seq f30r1 (.cond (.tmp 12) (.seq f30r2 .ret) .skip)) (.seq (.seq f30r3 (.block 0 (.loop f30l1))) (.seq f30r13 .ret))))
abbrev f30 : Pfn := ⟨3, 53, [.tmp 6], f30b⟩
def f30K : Array (List Nat) := #[[0, 1, 2], [0, 2, 12], [6], [0, 2, 7], [0, 2, 7, 16], [0, 2, 7], [0, 2, 7, 25], [6], [0, 2, 7, 8], [0, 2, 7, 8, 32], [0, 2, 7, 8], [0, 2, 7, 8, 52], [6], [6]]
def f30H : Array (List Nat) := #[[], [], [], [], [], [], [], [], [], [], [], [], [], []]
def f30A : Ann := ⟨fun r => f30K.getD r [], fun r => f30H.getD r [], fun r i => ([] : List (Nat × Nat)).contains (r, i)⟩
theorem f30C : compF Go.Proofs.Try.prog f30A 30 = some f30 := by kernel_rfl

/-- switchboard/switchboardref11.Right -/
abbrev f31o0 : List (Nat × Pop) := [
  (0, ⟨(some 2), .box 48 2 (.tmp 0), none⟩),
  (1, ⟨(some 4), .mv (.c (.t (.b false))), none⟩)]
abbrev f31r0 : Pc := .reg f31o0 [1, 2] []
abbrev f31o1 : List (Nat × Pop) := [
  (0, ⟨(some 6), .fad 0 (.tmp 2), none⟩),
  (1, ⟨(some 7), .load false 1 (.tmp 6), none⟩),
  (2, ⟨(some 8), .lenL (.tmp 7), none⟩),
  (3, ⟨(some 5), .mv (.tmp 8), none⟩)]
abbrev f31r1 : Pc := .reg f31o1 [1, 2, 5] []
abbrev f31o2 : List (Nat × Pop) := [
  (0, ⟨(some 9), .mv (.tmp 1), none⟩),
  (1, ⟨(some 10), .bin .lss (.tmp 9) (.c (.t (.i .i64 1))), none⟩),
  (2, ⟨(some 11), .mv (.tmp 10), none⟩),
  (3, ⟨(some 12), .mv (.tmp 1), (some (11, false))⟩),
  (4, ⟨(some 13), .bin .gtr (.tmp 12) (.c (.t (.i .i64 8))), (some (11, false))⟩),
  (5, ⟨(some 14), .pick (.tmp 11) (.c (.t (.b true))) (.tmp 13), none⟩),
  (6, ⟨(some 15), .mv (.tmp 14), none⟩),
  (7, ⟨(some 16), .mv (.tmp 5), (some (15, false))⟩),
  (8, ⟨(some 17), .bin .lss (.tmp 16) (.c (.t (.i .i64 1))), (some (15, false))⟩),
  (9, ⟨(some 18), .pick (.tmp 15) (.c (.t (.b true))) (.tmp 17), none⟩),
  (10, ⟨(some 19), .mv (.tmp 18), none⟩),
  (11, ⟨(some 20), .mv (.tmp 5), (some (19, false))⟩),
  (12, ⟨(some 21), .bin .gtr (.tmp 20) (.c (.t (.i .i64 8))), (some (19, false))⟩),
  (13, ⟨(some 22), .pick (.tmp 19) (.c (.t (.b true))) (.tmp 21), none⟩)]
abbrev f31r2 : Pc := .reg f31o2 [1, 2, 5, 22] []
abbrev f31o3 : List (Nat × Pop) := [
  (0, ⟨(some 4), .mv (.c (.t (.b false))), none⟩)]
abbrev f31r3 : Pc := .reg f31o3 [4] [2]
abbrev f31o4 : List (Nat × Pop) := [
  (0, ⟨(some 23), .fad 0 (.tmp 2), none⟩),
  (1, ⟨(some 24), .load false 1 (.tmp 23), none⟩),
  (2, ⟨(some 25), .mv (.tmp 5), none⟩),
  (3, ⟨(some 26), .mv (.tmp 1), none⟩),
  (4, ⟨(some 27), .call 30 [(.tmp 24), (.tmp 25), (.tmp 26)], none⟩),
  (5, ⟨(some 28), .mv (.tmp 27), none⟩),
  (6, ⟨(some 29), .fad 1 (.tmp 2), (some (28, true))⟩),
  (7, ⟨(some 30), .load false 1 (.tmp 29), (some (28, true))⟩),
  (8, ⟨(some 31), .mv (.tmp 1), (some (28, true))⟩),
  (9, ⟨(some 32), .mv (.tmp 5), (some (28, true))⟩),
  (10, ⟨(some 33), .call 30 [(.tmp 30), (.tmp 31), (.tmp 32)], (some (28, true))⟩),
  (11, ⟨(some 34), .pick (.tmp 28) (.tmp 33) (.c (.t (.b false))), none⟩),
  (12, ⟨(some 4), .mv (.tmp 34), none⟩)]
abbrev f31r4 : Pc := .reg f31o4 [4] [2]
abbrev f31b : Pc := (.seq f31r0 (.seq f31r1 (.seq (.seq f31r2 (.cond (.tmp 22) (.seq f31r3 .ret) .skip)) (.seq f31r4 .ret))))
abbrev f31 : Pfn := ⟨2, 35, [.tmp 4], f31b⟩
def f31K : Array (List Nat) := #[[1, 2], [1, 2, 5], [1, 2, 5, 22], [4], [4]]
def f31H : Array (List Nat) := #[[], [], [], [2], [2]]
def f31A : Ann := ⟨fun r => f31K.getD r [], fun r => f31H.getD r [], fun r i => ([] : List (Nat × Nat)).contains (r, i)⟩
theorem f31C : compF Go.Proofs.Try.prog f31A 31 = some f31 := by kernel_rfl

/-- switchboard/wire.Take -/
abbrev f32o0 : List (Nat × Pop) := [
  (0, ⟨(some 2), .alloc 71 [(.t (.i .i64 0)), (.t (.i .i64 0)), (.t (.i .i64 0)), (.t (.i .i64 0)), (.t (.i .i64 0)), (.t (.i .i64 0)), (.t (.i .i64 0)), (.t (.i .i64 0)), (.t (.i .i64 0)), (.t (.i .i64 0)), .nl], none⟩),
  (1, ⟨(some 3), .mv (.c (.t (.i .i64 0))), none⟩)]
abbrev f32r0 : Pc := .reg f32o0 [0, 2] []
abbrev f32o1 : List (Nat × Pop) := [
  (0, ⟨(some 10), .mv (.tmp 0), none⟩),
  (1, ⟨(some 11), .lenS (.tmp 10), none⟩),
  (2, ⟨(some 12), .bin .lss (.tmp 11) (.c (.t (.i .i64 52))), none⟩),
  (3, ⟨(some 13), .mv (.tmp 12), none⟩),
  (4, ⟨(some 14), .mv (.tmp 0), (some (13, false))⟩),
  (5, ⟨(some 15), .call 49 [(.tmp 14), (.c (.t (.i .i64 0)))], (some (13, false))⟩),
  (6, ⟨(some 16), .mv (.tmp 0), (some (13, false))⟩),
  (7, ⟨(some 17), .lenS (.tmp 16), (some (13, false))⟩),
  (8, ⟨(some 18), .bin .sub (.tmp 17) (.c (.t (.i .i64 4))), (some (13, false))⟩),
  (9, ⟨(some 19), .bin .neq (.tmp 15) (.tmp 18), (some (13, false))⟩),
  (10, ⟨(some 20), .pick (.tmp 13) (.c (.t (.b true))) (.tmp 19), none⟩),
  (11, ⟨(some 21), .mv (.tmp 20), none⟩),
  (12, ⟨(some 22), .mv (.tmp 0), (some (21, false))⟩),
  (13, ⟨(some 23), .lenS (.tmp 22), (some (21, false))⟩),
  (14, ⟨(some 24), .bin .rem (.tmp 23) (.c (.t (.i .i64 4))), (some (21, false))⟩),
  (15, ⟨(some 25), .bin .neq (.tmp 24) (.c (.t (.i .i64 0))), (some (21, false))⟩),
  (16, ⟨(some 26), .pick (.tmp 21) (.c (.t (.b true))) (.tmp 25), none⟩)]
abbrev f32r1 : Pc := .reg f32o1 [0, 2, 26] []
abbrev f32o2 : List (Nat × Pop) := [
  (0, ⟨(some 27), .build [(.t (.i .i64 0)), (.t (.i .i64 0)), (.t (.i .i64 0)), (.t (.i .i64 0)), (.t (.i .i64 0)), (.t (.i .i64 0)), (.t (.i .i64 0)), (.t (.i .i64 0)), (.t (.i .i64 0)), (.t (.i .i64 0)), .nl] [], none⟩),
  (1, ⟨none, .store 11 (.tmp 2) (.tmp 27), none⟩),
  (2, ⟨(some 3), .mv (.c (.t (.i .i64 2))), none⟩)]
abbrev f32r2 : Pc := .reg f32o2 [2, 3] []
abbrev f32o3 : List (Nat × Pop) := [
  (0, ⟨(some 28), .mv (.tmp 0), none⟩),
  (1, ⟨(some 29), .lenS (.tmp 28), none⟩),
  (2, ⟨(some 30), .bin .quo (.tmp 29) (.c (.t (.i .i64 4))), none⟩),
  (3, ⟨(some 31), .bin .sub (.tmp 30) (.c (.t (.i .i64 1))), none⟩),
  (4, ⟨(some 4), .mv (.tmp 31), none⟩)]
abbrev f32r3 : Pc := .reg f32o3 [0, 2, 4] []
abbrev f32o4 : List (Nat × Pop) := [
  (0, ⟨(some 32), .mv (.tmp 0), none⟩),
  (1, ⟨(some 33), .mv (.tmp 4), none⟩),
  (2, ⟨(some 34), .callq 49 [(.tmp 32), (.tmp 33)], none⟩),
  (3, ⟨(some 35), .mv (.tmp 0), none⟩),
  (4, ⟨(some 36), .mv (.tmp 4), none⟩),
  (5, ⟨(some 37), .bin .mul (.c (.t (.i .i64 4))) (.tmp 36), none⟩),
  (6, ⟨(some 38), .slS (.tmp 35) (some (.c (.t (.i .i64 4)))) (some (.tmp 37)), none⟩),
  (7, ⟨(some 39), .callq 50 [(.tmp 38)], none⟩),
  (8, ⟨(some 40), .bin .neq (.tmp 34) (.tmp 39), none⟩)]
abbrev f32r4 : Pc := .reg f32o4 [0, 2, 4, 40] []
abbrev f32o5 : List (Nat × Pop) := [
  (0, ⟨(some 41), .build [(.t (.i .i64 0)), (.t (.i .i64 0)), (.t (.i .i64 0)), (.t (.i .i64 0)), (.t (.i .i64 0)), (.t (.i .i64 0)), (.t (.i .i64 0)), (.t (.i .i64 0)), (.t (.i .i64 0)), (.t (.i .i64 0)), .nl] [], none⟩),
  (1, ⟨none, .store 11 (.tmp 2) (.tmp 41), none⟩),
  (2, ⟨(some 3), .mv (.c (.t (.i .i64 9))), none⟩)]
abbrev f32r5 : Pc := .reg f32o5 [2, 3] []
abbrev f32o6 : List (Nat × Pop) := [
  (0, ⟨(some 42), .mv (.tmp 4), none⟩),
  (1, ⟨(some 43), .mks 3 1 8 [(.i .i64 0)] (.tmp 42) (.tmp 42), none⟩),
  (2, ⟨(some 5), .mv (.tmp 43), none⟩)]
abbrev f32r6 : Pc := .reg f32o6 [0, 2, 5] []
abbrev f32o7 : List (Nat × Pop) := [
  (0, ⟨(some 44), .mv (.tmp 5), none⟩),
  (1, ⟨(some 45), .lenL (.tmp 44), none⟩),
  (2, ⟨(some 46), .mv (.c (.t (.i .i64 0))), none⟩)]
abbrev f32r7 : Pc := .reg f32o7 [0, 2, 5, 45, 46] []
abbrev f32o8 : List (Nat × Pop) := [
  (0, ⟨(some 47), .bin .lss (.tmp 46) (.tmp 45), none⟩)]
abbrev f32r8 : Pc := .reg f32o8 [0, 2, 5, 45, 46, 47] []
abbrev f32o9 : List (Nat × Pop) := [
  (0, ⟨(some 48), .mv (.tmp 46), none⟩),
  (1, ⟨(some 6), .mv (.tmp 48), none⟩)]
abbrev f32r9 : Pc := .reg f32o9 [0, 2, 5, 6, 45, 46] []
abbrev f32o10 : List (Nat × Pop) := [
  (0, ⟨(some 49), .mv (.tmp 5), none⟩),
  (1, ⟨(some 50), .mv (.tmp 6), none⟩),
  (2, ⟨(some 51), .mv (.tmp 0), none⟩),
  (3, ⟨(some 52), .mv (.tmp 6), none⟩),
  (4, ⟨(some 53), .call 49 [(.tmp 51), (.tmp 52)], none⟩),
  (5, ⟨(some 54), .ixS 1 (.tmp 49) (.tmp 50), none⟩),
  (6, ⟨none, .store 1 (.tmp 54) (.tmp 53), none⟩)]
abbrev f32r10 : Pc := .reg f32o10 [0, 2, 5, 45, 46] []
abbrev f32o11 : List (Nat × Pop) := [
  (0, ⟨(some 55), .bin .add (.tmp 46) (.c (.t (.i .i64 1))), none⟩),
  (1, ⟨(some 46), .mv (.tmp 55), none⟩)]
abbrev f32r11 : Pc := .reg f32o11 [0, 2, 5, 45, 46] []
def f32l0 : Pc := (.seq f32r8 (.seq (.cond (.tmp 47) .skip (.exit 0)) (.seq (.block 1 (.seq f32r9 f32r10)) f32r11)))
theorem f32l0e (C : Cfg) (s : St) : evL C f32l0 s = evL C (.seq f32r8 (.seq (.cond (.tmp 47) .skip (.exit 0)) (.seq (.block 1 (.seq f32r9 f32r10)) f32r11))) s := rfl
abbrev f32o12 : List (Nat × Pop) := [
  (0, ⟨(some 56), .mv (.tmp 5), none⟩),
  (1, ⟨(some 57), .ixS 1 (.tmp 56) (.c (.t (.i .i64 1))), none⟩),
  (2, ⟨(some 58), .load false 1 (.tmp 57), none⟩),
  (3, ⟨(some 59), .mv (.tmp 5), none⟩),
  (4, ⟨(some 60), .ixS 1 (.tmp 59) (.c (.t (.i .i64 2))), none⟩),
  (5, ⟨(some 61), .load false 1 (.tmp 60), none⟩),
  (6, ⟨(some 62), .mv (.tmp 5), none⟩),
  (7, ⟨(some 63), .ixS 1 (.tmp 62) (.c (.t (.i .i64 3))), none⟩),
  (8, ⟨(some 64), .load false 1 (.tmp 63), none⟩),
  (9, ⟨(some 65), .mv (.tmp 5), none⟩),
  (10, ⟨(some 66), .ixS 1 (.tmp 65) (.c (.t (.i .i64 4))), none⟩),
  (11, ⟨(some 67), .load false 1 (.tmp 66), none⟩),
  (12, ⟨(some 68), .mv (.tmp 5), none⟩),
  (13, ⟨(some 69), .ixS 1 (.tmp 68) (.c (.t (.i .i64 5))), none⟩),
  (14, ⟨(some 70), .load false 1 (.tmp 69), none⟩),
  (15, ⟨(some 71), .mv (.tmp 5), none⟩),
  (16, ⟨(some 72), .ixS 1 (.tmp 71) (.c (.t (.i .i64 6))), none⟩),
  (17, ⟨(some 73), .load false 1 (.tmp 72), none⟩),
  (18, ⟨(some 74), .mv (.tmp 5), none⟩),
  (19, ⟨(some 75), .ixS 1 (.tmp 74) (.c (.t (.i .i64 7))), none⟩),
  (20, ⟨(some 76), .load false 1 (.tmp 75), none⟩),
  (21, ⟨(some 77), .mv (.tmp 5), none⟩),
  (22, ⟨(some 78), .ixS 1 (.tmp 77) (.c (.t (.i .i64 8))), none⟩),
  (23, ⟨(some 79), .load false 1 (.tmp 78), none⟩),
  (24, ⟨(some 80), .mv (.tmp 5), none⟩),
  (25, ⟨(some 81), .ixS 1 (.tmp 80) (.c (.t (.i .i64 9))), none⟩),
  (26, ⟨(some 82), .load false 1 (.tmp 81), none⟩),
  (27, ⟨(some 83), .mv (.tmp 5), none⟩),
  (28, ⟨(some 84), .ixS 1 (.tmp 83) (.c (.t (.i .i64 10))), none⟩),
  (29, ⟨(some 85), .load false 1 (.tmp 84), none⟩),
  (30, ⟨(some 86), .build [(.t (.i .i64 0)), (.t (.i .i64 0)), (.t (.i .i64 0)), (.t (.i .i64 0)), (.t (.i .i64 0)), (.t (.i .i64 0)), (.t (.i .i64 0)), (.t (.i .i64 0)), (.t (.i .i64 0)), (.t (.i .i64 0)), .nl] [(0, 1, (.tmp 58)), (1, 1, (.tmp 61)), (2, 1, (.tmp 64)), (3, 1, (.tmp 67)), (4, 1, (.tmp 70)), (5, 1, (.tmp 73)), (6, 1, (.tmp 76)), (7, 1, (.tmp 79)), (8, 1, (.tmp 82)), (9, 1, (.tmp 85))], none⟩),
  (31, ⟨(some 7), .alloc 71 [(.t (.i .i64 0)), (.t (.i .i64 0)), (.t (.i .i64 0)), (.t (.i .i64 0)), (.t (.i .i64 0)), (.t (.i .i64 0)), (.t (.i .i64 0)), (.t (.i .i64 0)), (.t (.i .i64 0)), (.t (.i .i64 0)), .nl], none⟩),
  (32, ⟨none, .store 11 (.tmp 7) (.tmp 86), none⟩)]
abbrev f32r12 : Pc := .reg f32o12 [2, 5, 7] []
abbrev f32o13 : List (Nat × Pop) := [
  (0, ⟨(some 87), .mv (.tmp 5), none⟩),
  (1, ⟨(some 88), .sls 1 (.tmp 87) (some (.c (.t (.i .i64 12)))) none, none⟩),
  (2, ⟨(some 89), .lenL (.tmp 88), none⟩),
  (3, ⟨(some 90), .mv (.c (.t (.i .i64 0))), none⟩)]
abbrev f32r13 : Pc := .reg f32o13 [2, 5, 7, 88, 89, 90] []
abbrev f32o14 : List (Nat × Pop) := [
  (0, ⟨(some 91), .bin .lss (.tmp 90) (.tmp 89), none⟩)]
abbrev f32r14 : Pc := .reg f32o14 [2, 5, 7, 88, 89, 90, 91] []
abbrev f32o15 : List (Nat × Pop) := [
  (0, ⟨(some 92), .ixS 1 (.tmp 88) (.tmp 90), none⟩),
  (1, ⟨(some 93), .load false 1 (.tmp 92), none⟩),
  (2, ⟨(some 9), .mv (.tmp 93), none⟩)]
abbrev f32r15 : Pc := .reg f32o15 [2, 5, 7, 9, 88, 89, 90] []
abbrev f32o16 : List (Nat × Pop) := [
  (0, ⟨(some 94), .fad 10 (.tmp 7), none⟩),
  (1, ⟨(some 95), .load false 1 (.tmp 94), none⟩),
  (2, ⟨(some 96), .mv (.tmp 9), none⟩),
  (3, ⟨(some 97), .callq 51 [(.tmp 96)], none⟩),
  (4, ⟨(some 98), .bslF 1 [(.tmp 97)], none⟩),
  (5, ⟨(some 99), .app 3 1 8 (.tmp 95) (.tmp 98), none⟩),
  (6, ⟨(some 100), .fad 10 (.tmp 7), none⟩),
  (7, ⟨none, .store 1 (.tmp 100) (.tmp 99), none⟩)]
abbrev f32r16 : Pc := .reg f32o16 [2, 5, 7, 88, 89, 90] []
abbrev f32o17 : List (Nat × Pop) := [
  (0, ⟨(some 101), .bin .add (.tmp 90) (.c (.t (.i .i64 1))), none⟩),
  (1, ⟨(some 90), .mv (.tmp 101), none⟩)]
abbrev f32r17 : Pc := .reg f32o17 [2, 5, 7, 88, 89, 90] []
def f32l1 : Pc := (.seq f32r14 (.seq (.cond (.tmp 91) .skip (.exit 2)) (.seq (.block 3 (.seq f32r15 f32r16)) f32r17)))
theorem f32l1e (C : Cfg) (s : St) : evL C f32l1 s = evL C (.seq f32r14 (.seq (.cond (.tmp 91) .skip (.exit 2)) (.seq (.block 3 (.seq f32r15 f32r16)) f32r17))) s := rfl
abbrev f32o18 : List (Nat × Pop) := [
  (0, ⟨(some 102), .mv (.tmp 5), none⟩),
  (1, ⟨(some 103), .ixS 1 (.tmp 102) (.c (.t (.i .i64 11))), none⟩),
  (2, ⟨(some 104), .load false 1 (.tmp 103), none⟩),
  (3, ⟨(some 105), .fad 10 (.tmp 7), none⟩),
  (4, ⟨(some 106), .load false 1 (.tmp 105), none⟩),
  (5, ⟨(some 107), .lenL (.tmp 106), none⟩),
  (6, ⟨(some 108), .bin .neq (.tmp 104) (.tmp 107), none⟩),
  (7, ⟨(some 109), .mv (.tmp 108), none⟩),
  (8, ⟨(some 110), .load true 11 (.tmp 7), (some (109, false))⟩),
  (9, ⟨(some 111), .callq 52 [(.tmp 110)], (some (109, false))⟩),
  (10, ⟨(some 112), .un .not (.tmp 111), (some (109, false))⟩),
  (11, ⟨(some 113), .pick (.tmp 109) (.c (.t (.b true))) (.tmp 112), none⟩)]
abbrev f32r18 : Pc := .reg f32o18 [2, 7, 113] [43]
abbrev f32o19 : List (Nat × Pop) := [
  (0, ⟨(some 114), .build [(.t (.i .i64 0)), (.t (.i .i64 0)), (.t (.i .i64 0)), (.t (.i .i64 0)), (.t (.i .i64 0)), (.t (.i .i64 0)), (.t (.i .i64 0)), (.t (.i .i64 0)), (.t (.i .i64 0)), (.t (.i .i64 0)), .nl] [], none⟩),
  (1, ⟨none, .store 11 (.tmp 2) (.tmp 114), none⟩),
  (2, ⟨(some 3), .mv (.c (.t (.i .i64 2))), none⟩)]
abbrev f32r19 : Pc := .reg f32o19 [2, 3] [7]
abbrev f32o20 : List (Nat × Pop) := [
  (0, ⟨(some 115), .load true 11 (.tmp 7), none⟩),
  (1, ⟨none, .store 11 (.tmp 2) (.tmp 115), none⟩),
  (2, ⟨(some 3), .mv (.c (.t (.i .i64 0))), none⟩)]
abbrev f32r20 : Pc := .reg f32o20 [2, 3] [7]
abbrev f32b : Pc := (.seq f32r0 (.seq (.seq f32r1 (.cond (.tmp 26) (.seq f32r2 .ret) .skip)) (.seq f32r3 (.seq (.seq f32r4 (.cond (.tmp 40) (.seq f32r5 .ret) .skip)) (.seq f32r6 (.seq (.seq f32r7 (.block 0 (.loop f32l0))) (.seq f32r12 (.seq (.seq f32r13 (.block 2 (.loop f32l1))) (.seq (.seq f32r18 (.cond (.tmp 113) (.seq f32r19 .ret) .skip)) (.seq f32r20 .ret))))))))))
abbrev f32 : Pfn := ⟨1, 116, [.cell 2 true 11, .tmp 3], f32b⟩
def f32K : Array (List Nat) := #[[0, 2], [0, 2, 26], [2, 3], [0, 2, 4], [0, 2, 4, 40], [2, 3], [0, 2, 5], [0, 2, 5, 45, 46], [0, 2, 5, 45, 46, 47], [0, 2, 5, 6, 45, 46], [0, 2, 5, 45, 46], [0, 2, 5, 45, 46], [2, 5, 7], [2, 5, 7, 88, 89, 90], [2, 5, 7, 88, 89, 90, 91], [2, 5, 7, 9, 88, 89, 90], [2, 5, 7, 88, 89, 90], [2, 5, 7, 88, 89, 90], [2, 7, 113], [2, 3], [2, 3]]
def f32H : Array (List Nat) := #[[], [], [], [], [], [], [], [], [], [], [], [], [], [], [], [], [], [], [43], [7], [7]]
def f32A : Ann := ⟨fun r => f32K.getD r [], fun r => f32H.getD r [], fun r i => ([] : List (Nat × Nat)).contains (r, i)⟩
theorem f32C : compF Go.Proofs.Try.prog f32A 32 = some f32 := by kernel_rfl

/-- (*switchboard/fleet.Fleet).answer -/
abbrev f33o0 : List (Nat × Pop) := [
  (0, ⟨(some 3), .box 71 11 (.tmp 1), none⟩)]
abbrev f33r0 : Pc := .reg f33o0 [0, 3] []
abbrev f33o1 : List (Nat × Pop) := [
  (0, ⟨(some 5), .fad 0 (.tmp 3), none⟩),
  (1, ⟨(some 6), .load false 1 (.tmp 5), none⟩),
  (2, ⟨(some 7), .bin .neq (.tmp 6) (.c (.t (.i .i64 2))), none⟩),
  (3, ⟨(some 8), .mv (.tmp 7), none⟩),
  (4, ⟨(some 9), .fad 4 (.tmp 3), (some (8, false))⟩),
  (5, ⟨(some 10), .load false 1 (.tmp 9), (some (8, false))⟩),
  (6, ⟨(some 11), .bin .neq (.tmp 10) (.c (.t (.i .i64 1))), (some (8, false))⟩),
  (7, ⟨(some 12), .pick (.tmp 8) (.c (.t (.b true))) (.tmp 11), none⟩),
  (8, ⟨(some 13), .mv (.tmp 12), none⟩),
  (9, ⟨(some 14), .fad 5 (.tmp 3), (some (13, false))⟩),
  (10, ⟨(some 15), .load false 1 (.tmp 14), (some (13, false))⟩),
  (11, ⟨(some 16), .mv (.tmp 0), (some (13, false))⟩),
  (12, ⟨(some 17), .nchk (.tmp 16), (some (13, false))⟩),
  (13, ⟨(some 18), .fad 11 (.tmp 17), (some (13, false))⟩),
  (14, ⟨(some 19), .load false 1 (.tmp 18), (some (13, false))⟩),
  (15, ⟨(some 20), .bin .neq (.tmp 15) (.tmp 19), (some (13, false))⟩),
  (16, ⟨(some 21), .pick (.tmp 13) (.c (.t (.b true))) (.tmp 20), none⟩),
  (17, ⟨(some 22), .mv (.tmp 21), none⟩),
  (18, ⟨(some 23), .fad 10 (.tmp 3), (some (22, false))⟩),
  (19, ⟨(some 24), .load false 1 (.tmp 23), (some (22, false))⟩),
  (20, ⟨(some 25), .lenL (.tmp 24), (some (22, false))⟩),
  (21, ⟨(some 26), .mv (.tmp 0), (some (22, false))⟩),
  (22, ⟨(some 27), .nchk (.tmp 26), (some (22, false))⟩),
  (23, ⟨(some 28), .fad 0 (.tmp 27), (some (22, false))⟩),
  (24, ⟨(some 29), .fad 0 (.tmp 28), (some (22, false))⟩),
  (25, ⟨(some 30), .load false 1 (.tmp 29), (some (22, false))⟩),
  (26, ⟨(some 31), .bin .neq (.tmp 25) (.tmp 30), (some (22, false))⟩),
  (27, ⟨(some 32), .pick (.tmp 22) (.c (.t (.b true))) (.tmp 31), none⟩),
  (28, ⟨(some 33), .mv (.tmp 32), none⟩),
  (29, ⟨(some 34), .mv (.tmp 0), (some (33, false))⟩),
  (30, ⟨(some 35), .nchk (.tmp 34), (some (33, false))⟩),
  (31, ⟨(some 36), .fad 11 (.tmp 35), (some (33, false))⟩),
  (32, ⟨(some 37), .load false 1 (.tmp 36), (some (33, false))⟩),
  (33, ⟨(some 38), .mv (.tmp 0), (some (33, false))⟩),
  (34, ⟨(some 39), .nchk (.tmp 38), (some (33, false))⟩),
  (35, ⟨(some 40), .fad 0 (.tmp 39), (some (33, false))⟩),
  (36, ⟨(some 41), .fad 1 (.tmp 40), (some (33, false))⟩),
  (37, ⟨(some 42), .load false 1 (.tmp 41), (some (33, false))⟩),
  (38, ⟨(some 43), .lenL (.tmp 42), (some (33, false))⟩),
  (39, ⟨(some 44), .bin .geq (.tmp 37) (.tmp 43), (some (33, false))⟩),
  (40, ⟨(some 45), .pick (.tmp 33) (.c (.t (.b true))) (.tmp 44), none⟩)]
abbrev f33r1 : Pc := .reg f33o1 [0, 3, 45] []
abbrev f33o2 : List (Nat × Pop) := [
  (0, ⟨(some 46), .mv (.tmp 0), none⟩),
  (1, ⟨(some 47), .nchk (.tmp 46), none⟩),
  (2, ⟨(some 48), .fad 12 (.tmp 47), none⟩),
  (3, ⟨(some 49), .load false 1 (.tmp 48), none⟩),
  (4, ⟨(some 50), .mkfn 54 [(.tmp 3)], none⟩),
  (5, ⟨(some 51), .call 53 [(.tmp 49), (.tmp 50)], none⟩),
  (6, ⟨(some 4), .mv (.tmp 51), none⟩)]
abbrev f33r2 : Pc := .reg f33o2 [0, 3, 4] []
abbrev f33o3 : List (Nat × Pop) := [
  (0, ⟨(some 52), .mv (.tmp 4), none⟩),
  (1, ⟨(some 53), .bin .lss (.tmp 52) (.c (.t (.i .i64 0))), none⟩),
  (2, ⟨(some 54), .mv (.tmp 53), none⟩),
  (3, ⟨(some 55), .mv (.tmp 0), (some (54, false))⟩),
  (4, ⟨(some 56), .nchk (.tmp 55), (some (54, false))⟩),
  (5, ⟨(some 57), .fad 14 (.tmp 56), (some (54, false))⟩),
  (6, ⟨(some 58), .load false 1 (.tmp 57), (some (54, false))⟩),
  (7, ⟨(some 59), .mv (.tmp 4), (some (54, false))⟩),
  (8, ⟨(some 60), .ixS 1 (.tmp 58) (.tmp 59), (some (54, false))⟩),
  (9, ⟨(some 61), .load false 1 (.tmp 60), (some (54, false))⟩),
  (10, ⟨(some 62), .pick (.tmp 54) (.c (.t (.b true))) (.tmp 61), none⟩)]
abbrev f33r3 : Pc := .reg f33o3 [0, 3, 4, 62] []
abbrev f33o4 : List (Nat × Pop) := [
  (0, ⟨(some 63), .mv (.tmp 0), none⟩),
  (1, ⟨(some 64), .nchk (.tmp 63), none⟩),
  (2, ⟨(some 65), .fad 13 (.tmp 64), none⟩),
  (3, ⟨(some 66), .load false 1 (.tmp 65), none⟩),
  (4, ⟨(some 67), .mv (.tmp 4), none⟩),
  (5, ⟨(some 68), .mv (.tmp 0), none⟩),
  (6, ⟨(some 69), .nchk (.tmp 68), none⟩),
  (7, ⟨(some 70), .fad 14 (.tmp 69), none⟩),
  (8, ⟨(some 71), .load false 1 (.tmp 70), none⟩),
  (9, ⟨(some 72), .mv (.tmp 4), none⟩),
  (10, ⟨(some 73), .fad 10 (.tmp 3), none⟩),
  (11, ⟨(some 74), .load false 1 (.tmp 73), none⟩),
  (12, ⟨(some 75), .ixS 1 (.tmp 66) (.tmp 67), none⟩),
  (13, ⟨none, .store 1 (.tmp 75) (.tmp 74), none⟩),
  (14, ⟨(some 76), .ixS 1 (.tmp 71) (.tmp 72), none⟩),
  (15, ⟨none, .store 1 (.tmp 76) (.c (.t (.b true))), none⟩)]
abbrev f33r4 : Pc := .reg f33o4 [0] []
abbrev f33o5 : List (Nat × Pop) := [
  (0, ⟨(some 77), .mv (.tmp 0), none⟩),
  (1, ⟨(some 78), .call 25 [(.tmp 77)], none⟩)]
abbrev f33r5 : Pc := .reg f33o5 [] []
abbrev f33b : Pc := (.seq f33r0 (.seq (.seq f33r1 (.cond (.tmp 45) .ret .skip)) (.seq f33r2 (.seq (.seq f33r3 (.cond (.tmp 62) .ret .skip)) (.seq f33r4 f33r5)))))
abbrev f33 : Pfn := ⟨2, 79, [], f33b⟩
def f33K : Array (List Nat) := #[[0, 3], [0, 3, 45], [0, 3, 4], [0, 3, 4, 62], [0], []]
def f33H : Array (List Nat) := #[[], [], [], [], [], []]
def f33A : Ann := ⟨fun r => f33K.getD r [], fun r => f33H.getD r [], fun r i => ([] : List (Nat × Nat)).contains (r, i)⟩
theorem f33C : compF Go.Proofs.Try.prog f33A 33 = some f33 := by kernel_rfl

/-- switchboard/node.Work -/
abbrev f34o0 : List (Nat × Pop) := [
  (0, ⟨(some 5), .box 24 2 (.tmp 0), none⟩),
  (1, ⟨(some 6), .box 27 2 (.tmp 1), none⟩),
  (2, ⟨(some 9), .box 71 11 (.tmp 4), none⟩),
  (3, ⟨(some 10), .nilv 129 5, none⟩),
  (4, ⟨(some 11), .alloc 71 [(.t (.i .i64 0)), (.t (.i .i64 0)), (.t (.i .i64 0)), (.t (.i .i64 0)), (.t (.i .i64 0)), (.t (.i .i64 0)), (.t (.i .i64 0)), (.t (.i .i64 0)), (.t (.i .i64 0)), (.t (.i .i64 0)), .nl], none⟩),
  (5, ⟨(some 12), .mv (.c (.t (.b false))), none⟩)]
abbrev f34r0 : Pc := .reg f34o0 [2, 3, 5, 6, 9, 11] [10]
abbrev f34o1 : List (Nat × Pop) := [
  (0, ⟨(some 17), .load true 2 (.tmp 5), none⟩),
  (1, ⟨(some 18), .load true 2 (.tmp 6), none⟩),
  (2, ⟨(some 19), .mv (.tmp 2), none⟩),
  (3, ⟨(some 20), .load true 11 (.tmp 9), none⟩),
  (4, ⟨(some 21), .call 55 [(.tmp 17), (.tmp 18), (.tmp 19), (.tmp 20)], none⟩),
  (5, ⟨(some 22), .un .not (.tmp 21), none⟩)]
abbrev f34r1 : Pc := .reg f34o1 [2, 3, 5, 6, 9, 11, 22] []
abbrev f34o2 : List (Nat × Pop) := [
  (0, ⟨(some 23), .mv (.tmp 3), none⟩),
  (1, ⟨(some 24), .build [(.t (.i .i64 0)), (.t (.i .i64 0)), (.t (.i .i64 0)), (.t (.i .i64 0)), (.t (.i .i64 0)), (.t (.i .i64 0)), (.t (.i .i64 0)), (.t (.i .i64 0)), (.t (.i .i64 0)), (.t (.i .i64 0)), .nl] [], none⟩),
  (2, ⟨(some 10), .mv (.tmp 23), none⟩),
  (3, ⟨none, .store 11 (.tmp 11) (.tmp 24), none⟩),
  (4, ⟨(some 12), .mv (.c (.t (.b false))), none⟩)]
abbrev f34r2 : Pc := .reg f34o2 [10, 11, 12] [5, 6, 9]
abbrev f34o3 : List (Nat × Pop) := [
  (0, ⟨(some 25), .load true 11 (.tmp 9), none⟩),
  (1, ⟨(some 13), .alloc 71 [(.t (.i .i64 0)), (.t (.i .i64 0)), (.t (.i .i64 0)), (.t (.i .i64 0)), (.t (.i .i64 0)), (.t (.i .i64 0)), (.t (.i .i64 0)), (.t (.i .i64 0)), (.t (.i .i64 0)), (.t (.i .i64 0)), .nl], none⟩),
  (2, ⟨none, .store 11 (.tmp 13) (.tmp 25), none⟩)]
abbrev f34r3 : Pc := .reg f34o3 [2, 3, 5, 6, 9, 11, 13] []
abbrev f34o4 : List (Nat × Pop) := [
  (0, ⟨(some 26), .mv (.tmp 2), none⟩),
  (1, ⟨(some 27), .fad 1 (.tmp 9), none⟩),
  (2, ⟨(some 28), .loadS [9] false 1 (.tmp 27), none⟩),
  (3, ⟨(some 29), .fad 0 (.tmp 6), none⟩),
  (4, ⟨(some 30), .loadS [6] false 1 (.tmp 29), none⟩),
  (5, ⟨(some 31), .fad 0 (.tmp 13), none⟩),
  (6, ⟨none, .storeS [13] 1 (.tmp 31) (.c (.t (.i .i64 3))), none⟩),
  (7, ⟨(some 32), .fad 1 (.tmp 13), none⟩),
  (8, ⟨none, .storeS [13] 1 (.tmp 32) (.tmp 26), none⟩),
  (9, ⟨(some 33), .fad 2 (.tmp 13), none⟩),
  (10, ⟨none, .storeS [13] 1 (.tmp 33) (.tmp 28), none⟩),
  (11, ⟨(some 34), .fad 9 (.tmp 13), none⟩),
  (12, ⟨none, .store 1 (.tmp 34) (.tmp 30), none⟩),
  (13, ⟨(some 35), .fad 10 (.tmp 13), none⟩),
  (14, ⟨none, .store 1 (.tmp 35) (.c .nl), none⟩)]
abbrev f34r4 : Pc := .reg f34o4 [2, 3, 5, 6, 9, 11, 13] []
abbrev f34o5 : List (Nat × Pop) := [
  (0, ⟨(some 36), .fad 9 (.tmp 9), none⟩),
  (1, ⟨(some 37), .load false 1 (.tmp 36), none⟩),
  (2, ⟨(some 38), .fad 0 (.tmp 6), none⟩),
  (3, ⟨(some 39), .load false 1 (.tmp 38), none⟩),
  (4, ⟨(some 40), .bin .neq (.tmp 37) (.tmp 39), none⟩),
  (5, ⟨(some 41), .mv (.tmp 40), none⟩),
  (6, ⟨(some 42), .load true 2 (.tmp 6), (some (41, false))⟩),
  (7, ⟨(some 43), .fad 8 (.tmp 9), (some (41, false))⟩),
  (8, ⟨(some 44), .load false 1 (.tmp 43), (some (41, false))⟩),
  (9, ⟨(some 45), .mv (.tmp 2), (some (41, false))⟩),
  (10, ⟨(some 46), .call 56 [(.tmp 42), (.tmp 44), (.tmp 45)], (some (41, false))⟩),
  (11, ⟨(some 47), .un .not (.tmp 46), (some (41, false))⟩),
  (12, ⟨(some 48), .pick (.tmp 41) (.c (.t (.b true))) (.tmp 47), none⟩)]
abbrev f34r5 : Pc := .reg f34o5 [3, 5, 9, 11, 13, 48] [6]
abbrev f34o6 : List (Nat × Pop) := [
  (0, ⟨(some 49), .mv (.tmp 3), none⟩),
  (1, ⟨(some 50), .load true 11 (.tmp 13), none⟩),
  (2, ⟨(some 10), .mv (.tmp 49), none⟩),
  (3, ⟨none, .store 11 (.tmp 11) (.tmp 50), none⟩),
  (4, ⟨(some 12), .mv (.c (.t (.b true))), none⟩)]
abbrev f34r6 : Pc := .reg f34o6 [10, 11, 12] [5, 9, 13]
abbrev f34o7 : List (Nat × Pop) := [
  (0, ⟨(some 51), .fad 4 (.tmp 9), none⟩),
  (1, ⟨(some 52), .load false 1 (.tmp 51), none⟩),
  (2, ⟨(some 53), .fad 5 (.tmp 9), none⟩),
  (3, ⟨(some 54), .load false 1 (.tmp 53), none⟩),
  (4, ⟨(some 55), .fad 6 (.tmp 9), none⟩),
  (5, ⟨(some 56), .load false 1 (.tmp 55), none⟩),
  (6, ⟨(some 57), .fad 7 (.tmp 9), none⟩),
  (7, ⟨(some 58), .load false 1 (.tmp 57), none⟩),
  (8, ⟨(some 59), .build [(.t (.i .i64 0)), (.t (.i .i64 0)), (.t (.i .i64 0)), (.t (.i .i64 0))] [(0, 1, (.tmp 52)), (1, 1, (.tmp 54)), (2, 1, (.tmp 56)), (3, 1, (.tmp 58))], none⟩),
  (9, ⟨(some 14), .alloc 100 [(.t (.i .i64 0)), (.t (.i .i64 0)), (.t (.i .i64 0)), (.t (.i .i64 0))], none⟩),
  (10, ⟨none, .store 4 (.tmp 14) (.tmp 59), none⟩)]
abbrev f34r7 : Pc := .reg f34o7 [3, 5, 9, 11, 13, 14] []
abbrev f34o8 : List (Nat × Pop) := [
  (0, ⟨(some 61), .mv (.tmp 3), none⟩),
  (1, ⟨(some 62), .load true 4 (.tmp 14), none⟩),
  (2, ⟨(some 63), .call 57 [(.tmp 61), (.tmp 62)], none⟩),
  (3, ⟨(some 60), .mv (.tmp 63), none⟩),
  (4, ⟨(some 64), .ext 0 (.tmp 60), none⟩),
  (5, ⟨(some 65), .ext 1 (.tmp 60), none⟩),
  (6, ⟨(some 15), .mv (.tmp 64), none⟩),
  (7, ⟨(some 16), .mv (.tmp 65), none⟩)]
abbrev f34r8 : Pc := .reg f34o8 [3, 5, 9, 11, 13, 14, 15, 16] []
abbrev f34o9 : List (Nat × Pop) := [
  (0, ⟨(some 66), .mv (.tmp 16), none⟩),
  (1, ⟨(some 67), .un .not (.tmp 66), none⟩)]
abbrev f34r9 : Pc := .reg f34o9 [3, 5, 9, 11, 13, 14, 15, 67] []
abbrev f34o10 : List (Nat × Pop) := [
  (0, ⟨(some 69), .fad 1 (.tmp 5), none⟩),
  (1, ⟨(some 70), .load false 1 (.tmp 69), none⟩),
  (2, ⟨(some 71), .fad 5 (.tmp 9), none⟩),
  (3, ⟨(some 72), .load false 1 (.tmp 71), none⟩),
  (4, ⟨(some 73), .ixS 3 (.tmp 70) (.tmp 72), none⟩),
  (5, ⟨(some 74), .fad 1 (.tmp 73), none⟩),
  (6, ⟨(some 75), .load false 1 (.tmp 74), none⟩),
  (7, ⟨(some 76), .fad 8 (.tmp 9), none⟩),
  (8, ⟨(some 77), .load false 1 (.tmp 76), none⟩),
  (9, ⟨(some 78), .ixS 2 (.tmp 75) (.tmp 77), none⟩),
  (10, ⟨(some 79), .load true 2 (.tmp 78), none⟩),
  (11, ⟨(some 80), .fad 10 (.tmp 9), none⟩),
  (12, ⟨(some 81), .load false 1 (.tmp 80), none⟩),
  (13, ⟨(some 82), .callq 58 [(.tmp 79), (.tmp 81)], none⟩),
  (14, ⟨(some 68), .mv (.tmp 82), none⟩),
  (15, ⟨(some 83), .ext 0 (.tmp 68), none⟩),
  (16, ⟨(some 84), .ext 1 (.tmp 68), none⟩),
  (17, ⟨(some 15), .mv (.tmp 83), none⟩)]
abbrev f34r10 : Pc := .reg f34o10 [3, 11, 13, 14, 15] [5, 9]
abbrev f34o11 : List (Nat × Pop) := [
  (0, ⟨(some 86), .mv (.tmp 3), none⟩),
  (1, ⟨(some 87), .load true 4 (.tmp 14), none⟩),
  (2, ⟨(some 88), .mv (.tmp 15), none⟩),
  (3, ⟨(some 89), .call 59 [(.tmp 86), (.tmp 87), (.tmp 88)], none⟩),
  (4, ⟨(some 85), .mv (.tmp 89), none⟩),
  (5, ⟨(some 90), .ext 0 (.tmp 85), none⟩),
  (6, ⟨(some 91), .ext 1 (.tmp 85), none⟩),
  (7, ⟨(some 3), .mv (.tmp 90), none⟩)]
abbrev f34r11 : Pc := .reg f34o11 [3, 11, 13, 15] [14]
abbrev f34o12 : List (Nat × Pop) := [
  (0, ⟨(some 92), .mv (.tmp 15), none⟩),
  (1, ⟨(some 93), .fad 0 (.tmp 13), none⟩),
  (2, ⟨none, .store 1 (.tmp 93) (.c (.t (.i .i64 2))), none⟩),
  (3, ⟨(some 94), .fad 10 (.tmp 13), none⟩),
  (4, ⟨none, .store 1 (.tmp 94) (.tmp 92), none⟩)]
abbrev f34r12 : Pc := .reg f34o12 [3, 11, 13] [5, 9, 14]
abbrev f34o13 : List (Nat × Pop) := [
  (0, ⟨(some 95), .mv (.tmp 3), none⟩),
  (1, ⟨(some 96), .load true 11 (.tmp 13), none⟩),
  (2, ⟨(some 10), .mv (.tmp 95), none⟩),
  (3, ⟨none, .store 11 (.tmp 11) (.tmp 96), none⟩),
  (4, ⟨(some 12), .mv (.c (.t (.b true))), none⟩)]
abbrev f34r13 : Pc := .reg f34o13 [10, 11, 12] [13]
abbrev f34b : Pc := (.seq f34r0 (.seq (.seq f34r1 (.cond (.tmp 22) (.seq f34r2 .ret) .skip)) (.seq f34r3 (.seq f34r4 (.seq (.seq f34r5 (.cond (.tmp 48) (.seq f34r6 .ret) .skip)) (.seq f34r7 (.seq f34r8 (.seq (.seq f34r9 (.cond (.tmp 67) (.seq f34r10 f34r11) .skip)) (.seq f34r12 (.seq f34r13 .ret))))))))))
abbrev f34 : Pfn := ⟨5, 97, [.tmp 10, .cell 11 true 11, .tmp 12], f34b⟩
def f34K : Array (List Nat) := #[[2, 3, 5, 6, 9, 11], [2, 3, 5, 6, 9, 11, 22], [10, 11, 12], [2, 3, 5, 6, 9, 11, 13], [2, 3, 5, 6, 9, 11, 13], [3, 5, 9, 11, 13, 48], [10, 11, 12], [3, 5, 9, 11, 13, 14], [3, 5, 9, 11, 13, 14, 15, 16], [3, 5, 9, 11, 13, 14, 15, 67], [3, 11, 13, 14, 15], [3, 11, 13, 15], [3, 11, 13], [10, 11, 12]]
def f34H : Array (List Nat) := #[[10], [], [5, 6, 9], [], [], [6], [5, 9, 13], [], [], [], [5, 9], [14], [5, 9, 14], [13]]
def f34A : Ann := ⟨fun r => f34K.getD r [], fun r => f34H.getD r [], fun r i => ([(4, 2002), (4, 12002), (4, 2004), (4, 9004), (4, 2006), (4, 16006), (4, 2008), (4, 16008), (4, 2010), (4, 16010)] : List (Nat × Nat)).contains (r, i)⟩
theorem f34C : compF Go.Proofs.Try.prog f34A 34 = some f34 := by kernel_rfl

/-- switchboard/model.Right$1 -/
abbrev f35o0 : List (Nat × Pop) := [
  (0, ⟨(some 2), .box 46 3 (.tmp 0), none⟩),
  (1, ⟨(some 3), .mv (.c (.t (.b false))), none⟩)]
abbrev f35r0 : Pc := .reg f35o0 [1, 2] []
abbrev f35o1 : List (Nat × Pop) := [
  (0, ⟨(some 4), .load true 3 (.tmp 2), none⟩),
  (1, ⟨(some 5), .fad 0 (.tmp 1), none⟩),
  (2, ⟨(some 6), .load false 1 (.tmp 5), none⟩),
  (3, ⟨(some 7), .call 36 [(.tmp 4), (.tmp 6)], none⟩),
  (4, ⟨(some 8), .un .not (.tmp 7), none⟩),
  (5, ⟨(some 3), .mv (.tmp 8), none⟩)]
abbrev f35r1 : Pc := .reg f35o1 [3] [2]
abbrev f35b : Pc := (.seq f35r0 (.seq f35r1 .ret))
abbrev f35 : Pfn := ⟨2, 9, [.tmp 3], f35b⟩
def f35K : Array (List Nat) := #[[1, 2], [3]]
def f35H : Array (List Nat) := #[[], [2]]
def f35A : Ann := ⟨fun r => f35K.getD r [], fun r => f35H.getD r [], fun r i => ([] : List (Nat × Nat)).contains (r, i)⟩
theorem f35C : compF Go.Proofs.Try.prog f35A 35 = some f35 := by kernel_rfl

/-- switchboard/model.layer -/
abbrev f36o0 : List (Nat × Pop) := [
  (0, ⟨(some 2), .box 46 3 (.tmp 0), none⟩),
  (1, ⟨(some 3), .box 3 1 (.tmp 1), none⟩),
  (2, ⟨(some 4), .mv (.c (.t (.b false))), none⟩)]
abbrev f36r0 : Pc := .reg f36o0 [2, 3] []
abbrev f36o1 : List (Nat × Pop) := [
  (0, ⟨(some 6), .fad 1 (.tmp 2), none⟩),
  (1, ⟨(some 7), .load false 1 (.tmp 6), none⟩),
  (2, ⟨(some 8), .lenL (.tmp 7), none⟩),
  (3, ⟨(some 5), .mv (.tmp 8), none⟩)]
abbrev f36r1 : Pc := .reg f36o1 [2, 3, 5] []
abbrev f36o2 : List (Nat × Pop) := [
  (0, ⟨(some 9), .mv (.tmp 5), none⟩),
  (1, ⟨(some 10), .bin .geq (.tmp 9) (.c (.t (.i .i64 1))), none⟩),
  (2, ⟨(some 11), .mv (.tmp 10), none⟩),
  (3, ⟨(some 12), .mv (.tmp 5), (some (11, true))⟩),
  (4, ⟨(some 13), .bin .leq (.tmp 12) (.c (.t (.i .i64 8))), (some (11, true))⟩),
  (5, ⟨(some 14), .pick (.tmp 11) (.tmp 13) (.c (.t (.b false))), none⟩),
  (6, ⟨(some 15), .mv (.tmp 14), none⟩),
  (7, ⟨(some 16), .fad 0 (.tmp 2), (some (15, true))⟩),
  (8, ⟨(some 17), .load false 1 (.tmp 16), (some (15, true))⟩),
  (9, ⟨(some 18), .mv (.tmp 5), (some (15, true))⟩),
  (10, ⟨(some 19), .load false 1 (.tmp 3), (some (15, true))⟩),
  (11, ⟨(some 20), .call 60 [(.tmp 17), (.tmp 18), (.tmp 19)], (some (15, true))⟩),
  (12, ⟨(some 21), .pick (.tmp 15) (.tmp 20) (.c (.t (.b false))), none⟩),
  (13, ⟨(some 22), .mv (.tmp 21), none⟩),
  (14, ⟨(some 23), .fad 2 (.tmp 2), (some (22, true))⟩),
  (15, ⟨(some 24), .load false 1 (.tmp 23), (some (22, true))⟩),
  (16, ⟨(some 25), .bin .geq (.tmp 24) (.c (.t (.i .i64 1))), (some (22, true))⟩),
  (17, ⟨(some 26), .pick (.tmp 22) (.tmp 25) (.c (.t (.b false))), none⟩),
  (18, ⟨(some 27), .mv (.tmp 26), none⟩),
  (19, ⟨(some 28), .fad 2 (.tmp 2), (some (27, true))⟩),
  (20, ⟨(some 29), .load false 1 (.tmp 28), (some (27, true))⟩),
  (21, ⟨(some 30), .bin .leq (.tmp 29) (.c (.t (.i .i64 32))), (some (27, true))⟩),
  (22, ⟨(some 31), .pick (.tmp 27) (.tmp 30) (.c (.t (.b false))), none⟩),
  (23, ⟨(some 32), .mv (.tmp 31), none⟩),
  (24, ⟨(some 33), .fad 1 (.tmp 2), (some (32, true))⟩),
  (25, ⟨(some 34), .load false 1 (.tmp 33), (some (32, true))⟩),
  (26, ⟨(some 35), .mkfn 62 [(.tmp 3)], (some (32, true))⟩),
  (27, ⟨(some 36), .call 61 [(.tmp 34), (.tmp 35)], (some (32, true))⟩),
  (28, ⟨(some 37), .un .not (.tmp 36), (some (32, true))⟩),
  (29, ⟨(some 38), .pick (.tmp 32) (.tmp 37) (.c (.t (.b false))), none⟩),
  (30, ⟨(some 4), .mv (.tmp 38), none⟩)]
abbrev f36r2 : Pc := .reg f36o2 [4] [2, 3]
abbrev f36b : Pc := (.seq f36r0 (.seq f36r1 (.seq f36r2 .ret)))
abbrev f36 : Pfn := ⟨2, 39, [.tmp 4], f36b⟩
def f36K : Array (List Nat) := #[[2, 3], [2, 3, 5], [4]]
def f36H : Array (List Nat) := #[[], [], [2, 3]]
def f36A : Ann := ⟨fun r => f36K.getD r [], fun r => f36H.getD r [], fun r i => ([] : List (Nat × Nat)).contains (r, i)⟩
theorem f36C : compF Go.Proofs.Try.prog f36A 36 = some f36 := by kernel_rfl

/-- slices.ContainsFunc[[][]int,[]int] -/
abbrev f37o0 : List (Nat × Pop) := [
  (0, ⟨(some 4), .mv (.c (.t (.b false))), none⟩)]
abbrev f37r0 : Pc := .reg f37o0 [0, 1] []
abbrev f37o1 : List (Nat × Pop) := [
  (0, ⟨(some 5), .mv (.tmp 0), none⟩),
  (1, ⟨(some 6), .mv (.tmp 1), none⟩),
  (2, ⟨(some 7), .call 64 [(.tmp 5), (.tmp 6)], none⟩),
  (3, ⟨(some 8), .bin .geq (.tmp 7) (.c (.t (.i .i64 0))), none⟩),
  (4, ⟨(some 4), .mv (.tmp 8), none⟩)]
abbrev f37r1 : Pc := .reg f37o1 [4] []
abbrev f37b : Pc := (.seq f37r0 (.seq f37r1 .ret))
abbrev f37 : Pfn := ⟨2, 9, [.tmp 4], f37b⟩
def f37K : Array (List Nat) := #[[0, 1], [4]]
def f37H : Array (List Nat) := #[[], []]
def f37A : Ann := ⟨fun r => f37K.getD r [], fun r => f37H.getD r [], fun r i => ([] : List (Nat × Nat)).contains (r, i)⟩
theorem f37C : compF Go.Proofs.Try.prog f37A 37 = some f37 := by kernel_rfl

/-- switchboard/model.Tokens$1 -/
abbrev f38o0 : List (Nat × Pop) := [
  (0, ⟨(some 3), .mv (.c (.t (.b false))), none⟩)]
abbrev f38r0 : Pc := .reg f38o0 [0, 1] []
abbrev f38o1 : List (Nat × Pop) := [
  (0, ⟨(some 4), .mv (.tmp 0), none⟩),
  (1, ⟨(some 5), .lenL (.tmp 4), none⟩),
  (2, ⟨(some 6), .fad 0 (.tmp 1), none⟩),
  (3, ⟨(some 7), .load false 1 (.tmp 6), none⟩),
  (4, ⟨(some 8), .bin .neq (.tmp 5) (.tmp 7), none⟩),
  (5, ⟨(some 9), .mv (.tmp 8), none⟩),
  (6, ⟨(some 10), .mv (.tmp 0), (some (9, false))⟩),
  (7, ⟨(some 11), .call 39 [(.tmp 10), (.c (.fn 40 []))], (some (9, false))⟩),
  (8, ⟨(some 12), .pick (.tmp 9) (.c (.t (.b true))) (.tmp 11), none⟩),
  (9, ⟨(some 3), .mv (.tmp 12), none⟩)]
abbrev f38r1 : Pc := .reg f38o1 [3] []
abbrev f38b : Pc := (.seq f38r0 (.seq f38r1 .ret))
abbrev f38 : Pfn := ⟨2, 13, [.tmp 3], f38b⟩
def f38K : Array (List Nat) := #[[0, 1], [3]]
def f38H : Array (List Nat) := #[[], []]
def f38A : Ann := ⟨fun r => f38K.getD r [], fun r => f38H.getD r [], fun r i => ([] : List (Nat × Nat)).contains (r, i)⟩
theorem f38C : compF Go.Proofs.Try.prog f38A 38 = some f38 := by kernel_rfl

/-- slices.ContainsFunc[[]int,int] -/
abbrev f39o0 : List (Nat × Pop) := [
  (0, ⟨(some 4), .mv (.c (.t (.b false))), none⟩)]
abbrev f39r0 : Pc := .reg f39o0 [0, 1] []
abbrev f39o1 : List (Nat × Pop) := [
  (0, ⟨(some 5), .mv (.tmp 0), none⟩),
  (1, ⟨(some 6), .mv (.tmp 1), none⟩),
  (2, ⟨(some 7), .call 65 [(.tmp 5), (.tmp 6)], none⟩),
  (3, ⟨(some 8), .bin .geq (.tmp 7) (.c (.t (.i .i64 0))), none⟩),
  (4, ⟨(some 4), .mv (.tmp 8), none⟩)]
abbrev f39r1 : Pc := .reg f39o1 [4] []
abbrev f39b : Pc := (.seq f39r0 (.seq f39r1 .ret))
abbrev f39 : Pfn := ⟨2, 9, [.tmp 4], f39b⟩
def f39K : Array (List Nat) := #[[0, 1], [4]]
def f39H : Array (List Nat) := #[[], []]
def f39A : Ann := ⟨fun r => f39K.getD r [], fun r => f39H.getD r [], fun r i => ([] : List (Nat × Nat)).contains (r, i)⟩
theorem f39C : compF Go.Proofs.Try.prog f39A 39 = some f39 := by kernel_rfl

/-- switchboard/model.Tokens$1$1 -/
abbrev f40o0 : List (Nat × Pop) := [
  (0, ⟨(some 2), .mv (.c (.t (.b false))), none⟩)]
abbrev f40r0 : Pc := .reg f40o0 [0] []
abbrev f40o1 : List (Nat × Pop) := [
  (0, ⟨(some 3), .mv (.tmp 0), none⟩),
  (1, ⟨(some 4), .call 41 [(.tmp 3)], none⟩),
  (2, ⟨(some 5), .mv (.tmp 0), none⟩),
  (3, ⟨(some 6), .bin .neq (.tmp 4) (.tmp 5), none⟩),
  (4, ⟨(some 2), .mv (.tmp 6), none⟩)]
abbrev f40r1 : Pc := .reg f40o1 [2] []
abbrev f40b : Pc := (.seq f40r0 (.seq f40r1 .ret))
abbrev f40 : Pfn := ⟨1, 7, [.tmp 2], f40b⟩
def f40K : Array (List Nat) := #[[0], [2]]
def f40H : Array (List Nat) := #[[], []]
def f40A : Ann := ⟨fun r => f40K.getD r [], fun r => f40H.getD r [], fun r i => ([] : List (Nat × Nat)).contains (r, i)⟩
theorem f40C : compF Go.Proofs.Try.prog f40A 40 = some f40 := by kernel_rfl

/-- switchboard/fix.Hold -/
abbrev f41o0 : List (Nat × Pop) := [
  (0, ⟨(some 2), .mv (.c (.t (.i .i64 0))), none⟩)]
abbrev f41r0 : Pc := .reg f41o0 [0] []
abbrev f41o1 : List (Nat × Pop) := [
  (0, ⟨(some 3), .mv (.tmp 0), none⟩),
  (1, ⟨(some 4), .mm false [(.c (.t (.i .i64 2147483647))), (.tmp 3)], none⟩),
  (2, ⟨(some 5), .mm true [(.c (.t (.i .i64 (-2147483647)))), (.tmp 4)], none⟩),
  (3, ⟨(some 2), .mv (.tmp 5), none⟩)]
abbrev f41r1 : Pc := .reg f41o1 [2] []
abbrev f41b : Pc := (.seq f41r0 (.seq f41r1 .ret))
abbrev f41 : Pfn := ⟨1, 6, [.tmp 2], f41b⟩
def f41K : Array (List Nat) := #[[0], [2]]
def f41H : Array (List Nat) := #[[], []]
def f41A : Ann := ⟨fun r => f41K.getD r [], fun r => f41H.getD r [], fun r i => ([] : List (Nat × Nat)).contains (r, i)⟩
theorem f41C : compF Go.Proofs.Try.prog f41A 41 = some f41 := by kernel_rfl

/-- slices.IndexFunc[[]switchboard/api.Layer,switchboard/api.Layer] -/
abbrev f42o0 : List (Nat × Pop) := [
  (0, ⟨(some 4), .mv (.c (.t (.i .i64 0))), none⟩)]
abbrev f42r0 : Pc := .reg f42o0 [0, 1] []
abbrev f42o1 : List (Nat × Pop) := [
  (0, ⟨(some 6), .mv (.tmp 0), none⟩),
  (1, ⟨(some 7), .lenL (.tmp 6), none⟩),
  (2, ⟨(some 8), .mv (.c (.t (.i .i64 0))), none⟩)]
abbrev f42r1 : Pc := .reg f42o1 [0, 1, 7, 8] []
abbrev f42o2 : List (Nat × Pop) := [
  (0, ⟨(some 9), .bin .lss (.tmp 8) (.tmp 7), none⟩)]
abbrev f42r2 : Pc := .reg f42o2 [0, 1, 7, 8, 9] []
abbrev f42o3 : List (Nat × Pop) := [
  (0, ⟨(some 10), .mv (.tmp 8), none⟩),
  (1, ⟨(some 5), .mv (.tmp 10), none⟩)]
abbrev f42r3 : Pc := .reg f42o3 [0, 1, 5, 7, 8] []
abbrev f42o4 : List (Nat × Pop) := [
  (0, ⟨(some 11), .mv (.tmp 1), none⟩),
  (1, ⟨(some 12), .mv (.tmp 0), none⟩),
  (2, ⟨(some 13), .mv (.tmp 5), none⟩),
  (3, ⟨(some 14), .ixS 3 (.tmp 12) (.tmp 13), none⟩),
  (4, ⟨(some 15), .load true 3 (.tmp 14), none⟩),
  (5, ⟨(some 16), .callv (.tmp 11) [(.tmp 15)], none⟩)]
abbrev f42r4 : Pc := .reg f42o4 [0, 1, 5, 7, 8, 16] []
abbrev f42o5 : List (Nat × Pop) := [
  (0, ⟨(some 17), .mv (.tmp 5), none⟩),
  (1, ⟨(some 4), .mv (.tmp 17), none⟩)]
abbrev f42r5 : Pc := .reg f42o5 [4] []
abbrev f42o6 : List (Nat × Pop) := [
  (0, ⟨(some 18), .bin .add (.tmp 8) (.c (.t (.i .i64 1))), none⟩),
  (1, ⟨(some 8), .mv (.tmp 18), none⟩)]
abbrev f42r6 : Pc := .reg f42o6 [0, 1, 7, 8] []
def f42l0 : Pc := (.seq f42r2 (.seq (.cond (.tmp 9) .skip (.exit 0)) (.seq (.block 1 (.seq f42r3 (.seq f42r4 (.cond (.tmp 16) (.seq f42r5 .ret) .skip)))) f42r6)))
theorem f42l0e (C : Cfg) (s : St) : evL C f42l0 s = evL C (.seq f42r2 (.seq (.cond (.tmp 9) .skip (.exit 0)) (.seq (.block 1 (.seq f42r3 (.seq f42r4 (.cond (.tmp 16) (.seq f42r5 .ret) .skip)))) f42r6))) s := rfl
abbrev f42o7 : List (Nat × Pop) := [
  (0, ⟨(some 4), .mv (.c (.t (.i .i64 (-1)))), none⟩)]
abbrev f42r7 : Pc := .reg f42o7 [4] []
abbrev f42b : Pc := (.seq f42r0 (.seq (.seq f42r1 (.block 0 (.loop f42l0))) (.seq f42r7 .ret)))
abbrev f42 : Pfn := ⟨2, 19, [.tmp 4], f42b⟩
def f42K : Array (List Nat) := #[[0, 1], [0, 1, 7, 8], [0, 1, 7, 8, 9], [0, 1, 5, 7, 8], [0, 1, 5, 7, 8, 16], [4], [0, 1, 7, 8], [4]]
def f42H : Array (List Nat) := #[[], [], [], [], [], [], [], []]
def f42A : Ann := ⟨fun r => f42K.getD r [], fun r => f42H.getD r [], fun r i => ([] : List (Nat × Nat)).contains (r, i)⟩
theorem f42C : compF Go.Proofs.Try.prog f42A 42 = some f42 := by kernel_rfl

/-- switchboard/model.Parts -/
abbrev f43o0 : List (Nat × Pop) := [
  (0, ⟨(some 2), .box 46 3 (.tmp 0), none⟩),
  (1, ⟨(some 4), .nilv 66 4, none⟩)]
abbrev f43r0 : Pc := .reg f43o0 [1, 2] [4, 11, 87]
abbrev f43o1 : List (Nat × Pop) := [
  (0, ⟨(some 5), .nilv 113 4, none⟩)]
abbrev f43r1 : Pc := .reg f43o1 [1, 2, 5] []
abbrev f43o2 : List (Nat × Pop) := [
  (0, ⟨(some 6), .nilv 116 2, none⟩)]
abbrev f43r2 : Pc := .reg f43o2 [1, 2, 5, 6] []
abbrev f43o3 : List (Nat × Pop) := [
  (0, ⟨(some 16), .mv (.tmp 1), none⟩),
  (1, ⟨(some 17), .lenL (.tmp 16), none⟩),
  (2, ⟨(some 18), .mv (.c (.t (.i .i64 0))), none⟩)]
abbrev f43r3 : Pc := .reg f43o3 [2, 5, 6, 16, 17, 18] []
abbrev f43o4 : List (Nat × Pop) := [
  (0, ⟨(some 19), .bin .lss (.tmp 18) (.tmp 17), none⟩)]
abbrev f43r4 : Pc := .reg f43o4 [2, 5, 6, 16, 17, 18, 19] []
abbrev f43o5 : List (Nat × Pop) := [
  (0, ⟨(some 20), .ixS 1 (.tmp 16) (.tmp 18), none⟩),
  (1, ⟨(some 21), .load false 1 (.tmp 20), none⟩),
  (2, ⟨(some 8), .mv (.tmp 21), none⟩)]
abbrev f43r5 : Pc := .reg f43o5 [2, 5, 6, 8, 16, 17, 18] []
abbrev f43o6 : List (Nat × Pop) := [
  (0, ⟨(some 23), .fad 0 (.tmp 2), none⟩),
  (1, ⟨(some 24), .load false 1 (.tmp 23), none⟩),
  (2, ⟨(some 25), .mv (.tmp 8), none⟩),
  (3, ⟨(some 26), .call 66 [(.tmp 24), (.tmp 25)], none⟩),
  (4, ⟨(some 22), .mv (.tmp 26), none⟩),
  (5, ⟨(some 27), .ext 0 (.tmp 22), none⟩),
  (6, ⟨(some 28), .ext 1 (.tmp 22), none⟩),
  (7, ⟨(some 9), .alloc 113 [(.t (.i .i64 0)), (.t (.i .i64 0)), (.t (.i .i64 0)), (.t (.i .i64 0))], none⟩),
  (8, ⟨none, .store 4 (.tmp 9) (.tmp 27), none⟩),
  (9, ⟨(some 10), .mv (.tmp 28), none⟩)]
abbrev f43r6 : Pc := .reg f43o6 [2, 5, 6, 9, 16, 17, 18] []
abbrev f43o7 : List (Nat × Pop) := [
  (0, ⟨(some 29), .mv (.tmp 5), none⟩),
  (1, ⟨(some 30), .load true 4 (.tmp 9), none⟩),
  (2, ⟨(some 31), .bslT 4 [(.tmp 30)], none⟩),
  (3, ⟨(some 32), .app 113 4 32 (.tmp 29) (.tmp 31), none⟩),
  (4, ⟨(some 5), .mv (.tmp 32), none⟩)]
abbrev f43r7 : Pc := .reg f43o7 [2, 5, 6, 9, 16, 17, 18] []
abbrev f43o8 : List (Nat × Pop) := [
  (0, ⟨(some 33), .mv (.tmp 6), none⟩),
  (1, ⟨(some 34), .fad 0 (.tmp 9), none⟩),
  (2, ⟨(some 35), .load false 1 (.tmp 34), none⟩),
  (3, ⟨(some 36), .fad 1 (.tmp 9), none⟩),
  (4, ⟨(some 37), .load false 1 (.tmp 36), none⟩),
  (5, ⟨(some 38), .build [(.t (.i .i64 0)), (.t (.i .i64 0))] [(0, 1, (.tmp 35)), (1, 1, (.tmp 37))], none⟩),
  (6, ⟨(some 39), .bslT 2 [(.tmp 38)], none⟩),
  (7, ⟨(some 40), .app 116 2 16 (.tmp 33) (.tmp 39), none⟩),
  (8, ⟨(some 6), .mv (.tmp 40), none⟩)]
abbrev f43r8 : Pc := .reg f43o8 [2, 5, 6, 16, 17, 18] [9]
abbrev f43o9 : List (Nat × Pop) := [
  (0, ⟨(some 41), .bin .add (.tmp 18) (.c (.t (.i .i64 1))), none⟩),
  (1, ⟨(some 18), .mv (.tmp 41), none⟩)]
abbrev f43r9 : Pc := .reg f43o9 [2, 5, 6, 16, 17, 18] []
def f43l0 : Pc := (.seq f43r4 (.seq (.cond (.tmp 19) .skip (.exit 0)) (.seq (.block 1 (.seq f43r5 (.seq f43r6 (.seq f43r7 f43r8)))) f43r9)))
theorem f43l0e (C : Cfg) (s : St) : evL C f43l0 s = evL C (.seq f43r4 (.seq (.cond (.tmp 19) .skip (.exit 0)) (.seq (.block 1 (.seq f43r5 (.seq f43r6 (.seq f43r7 f43r8)))) f43r9))) s := rfl
abbrev f43o10 : List (Nat × Pop) := [
  (0, ⟨(some 11), .nilv 66 4, none⟩)]
abbrev f43r10 : Pc := .reg f43o10 [2, 5, 6, 11] []
abbrev f43o11 : List (Nat × Pop) := [
  (0, ⟨(some 42), .mv (.tmp 6), none⟩),
  (1, ⟨(some 43), .fad 1 (.tmp 2), none⟩),
  (2, ⟨(some 44), .load false 1 (.tmp 43), none⟩),
  (3, ⟨(some 45), .lenL (.tmp 44), none⟩),
  (4, ⟨(some 46), .fad 2 (.tmp 2), none⟩),
  (5, ⟨(some 47), .load false 1 (.tmp 46), none⟩),
  (6, ⟨(some 48), .call 67 [(.tmp 42), (.tmp 45), (.tmp 47)], none⟩),
  (7, ⟨(some 49), .lenL (.tmp 48), none⟩),
  (8, ⟨(some 50), .mv (.c (.t (.i .i64 0))), none⟩)]
abbrev f43r11 : Pc := .reg f43o11 [5, 6, 11, 48, 49, 50] [2]
abbrev f43o12 : List (Nat × Pop) := [
  (0, ⟨(some 51), .bin .lss (.tmp 50) (.tmp 49), none⟩)]
abbrev f43r12 : Pc := .reg f43o12 [5, 6, 11, 48, 49, 50, 51] []
abbrev f43o13 : List (Nat × Pop) := [
  (0, ⟨(some 52), .mv (.tmp 50), none⟩),
  (1, ⟨(some 53), .ixS 2 (.tmp 48) (.tmp 50), none⟩),
  (2, ⟨(some 54), .load true 2 (.tmp 53), none⟩),
  (3, ⟨(some 13), .alloc 116 [(.t (.i .i64 0)), (.t (.i .i64 0))], none⟩),
  (4, ⟨(some 12), .mv (.tmp 52), none⟩),
  (5, ⟨none, .store 2 (.tmp 13) (.tmp 54), none⟩)]
abbrev f43r13 : Pc := .reg f43o13 [5, 6, 11, 12, 13, 48, 49, 50] []
abbrev f43o14 : List (Nat × Pop) := [
  (0, ⟨(some 55), .load true 2 (.tmp 13), none⟩),
  (1, ⟨(some 56), .mv (.c (.t (.i .i64 0))), none⟩)]
abbrev f43r14 : Pc := .reg f43o14 [5, 6, 11, 12, 48, 49, 50, 55, 56] [13]
abbrev f43o15 : List (Nat × Pop) := [
  (0, ⟨(some 57), .bin .lss (.tmp 56) (.c (.t (.i .i64 2))), none⟩)]
abbrev f43r15 : Pc := .reg f43o15 [5, 6, 11, 12, 48, 49, 50, 55, 56, 57] []
abbrev f43o16 : List (Nat × Pop) := [
  (0, ⟨(some 58), .mv (.tmp 56), none⟩),
  (1, ⟨(some 59), .ixV false 2 1 (.tmp 55) (.tmp 56), none⟩),
  (2, ⟨(some 14), .mv (.tmp 58), none⟩),
  (3, ⟨(some 15), .mv (.tmp 59), none⟩)]
abbrev f43r16 : Pc := .reg f43o16 [5, 6, 11, 12, 14, 15, 48, 49, 50, 55, 56] []
abbrev f43o17 : List (Nat × Pop) := [
  (0, ⟨(some 60), .mv (.tmp 15), none⟩),
  (1, ⟨(some 61), .bin .geq (.tmp 60) (.c (.t (.i .i64 0))), none⟩)]
abbrev f43r17 : Pc := .reg f43o17 [5, 6, 11, 12, 14, 48, 49, 50, 55, 56, 61] []
abbrev f43o18 : List (Nat × Pop) := [
  (0, ⟨(some 62), .mv (.tmp 11), none⟩),
  (1, ⟨(some 63), .mv (.tmp 12), none⟩),
  (2, ⟨(some 64), .mv (.tmp 14), none⟩),
  (3, ⟨(some 65), .mv (.tmp 6), none⟩),
  (4, ⟨(some 66), .mv (.tmp 12), none⟩),
  (5, ⟨(some 67), .mv (.tmp 14), none⟩),
  (6, ⟨(some 68), .ixS 2 (.tmp 65) (.tmp 66), none⟩),
  (7, ⟨(some 69), .ixA 2 1 (.tmp 68) (.tmp 67), none⟩),
  (8, ⟨(some 70), .load false 1 (.tmp 69), none⟩),
  (9, ⟨(some 71), .mv (.tmp 5), none⟩),
  (10, ⟨(some 72), .mv (.tmp 12), none⟩),
  (11, ⟨(some 73), .ixS 4 (.tmp 71) (.tmp 72), none⟩),
  (12, ⟨(some 74), .fad 2 (.tmp 73), none⟩),
  (13, ⟨(some 75), .load false 1 (.tmp 74), none⟩),
  (14, ⟨(some 76), .mv (.tmp 5), none⟩),
  (15, ⟨(some 77), .mv (.tmp 12), none⟩),
  (16, ⟨(some 78), .ixS 4 (.tmp 76) (.tmp 77), none⟩),
  (17, ⟨(some 79), .fad 3 (.tmp 78), none⟩),
  (18, ⟨(some 80), .load false 1 (.tmp 79), none⟩),
  (19, ⟨(some 81), .bslF 1 [(.tmp 75), (.tmp 80)], none⟩),
  (20, ⟨(some 82), .mv (.tmp 14), none⟩),
  (21, ⟨(some 83), .ixS 1 (.tmp 81) (.tmp 82), none⟩),
  (22, ⟨(some 84), .load false 1 (.tmp 83), none⟩),
  (23, ⟨(some 85), .build [(.t (.i .i64 0)), (.t (.i .i64 0)), (.t (.i .i64 0)), (.t (.i .i64 0))] [(0, 1, (.tmp 63)), (1, 1, (.tmp 64)), (2, 1, (.tmp 70)), (3, 1, (.tmp 84))], none⟩),
  (24, ⟨(some 86), .bslT 4 [(.tmp 85)], none⟩),
  (25, ⟨(some 87), .app 66 4 32 (.tmp 62) (.tmp 86), none⟩),
  (26, ⟨(some 11), .mv (.tmp 87), none⟩)]
abbrev f43r18 : Pc := .reg f43o18 [5, 6, 11, 12, 48, 49, 50, 55, 56] []
abbrev f43o19 : List (Nat × Pop) := [
  (0, ⟨(some 88), .bin .add (.tmp 56) (.c (.t (.i .i64 1))), none⟩),
  (1, ⟨(some 56), .mv (.tmp 88), none⟩)]
abbrev f43r19 : Pc := .reg f43o19 [5, 6, 11, 12, 48, 49, 50, 55, 56] []
def f43l1 : Pc := (.seq f43r15 (.seq (.cond (.tmp 57) .skip (.exit 4)) (.seq (.block 5 (.seq f43r16 (.seq f43r17 (.cond (.tmp 61) f43r18 .skip)))) f43r19)))
theorem f43l1e (C : Cfg) (s : St) : evL C f43l1 s = evL C (.seq f43r15 (.seq (.cond (.tmp 57) .skip (.exit 4)) (.seq (.block 5 (.seq f43r16 (.seq f43r17 (.cond (.tmp 61) f43r18 .skip)))) f43r19))) s := rfl
abbrev f43o20 : List (Nat × Pop) := [
  (0, ⟨(some 89), .bin .add (.tmp 50) (.c (.t (.i .i64 1))), none⟩),
  (1, ⟨(some 50), .mv (.tmp 89), none⟩)]
abbrev f43r20 : Pc := .reg f43o20 [5, 6, 11, 48, 49, 50] []
def f43l2 : Pc := (.seq f43r12 (.seq (.cond (.tmp 51) .skip (.exit 2)) (.seq (.block 3 (.seq f43r13 (.seq f43r14 (.block 4 (.loop f43l1))))) f43r20)))
theorem f43l2e (C : Cfg) (s : St) : evL C f43l2 s = evL C (.seq f43r12 (.seq (.cond (.tmp 51) .skip (.exit 2)) (.seq (.block 3 (.seq f43r13 (.seq f43r14 (.block 4 (.loop f43l1))))) f43r20))) s := rfl
abbrev f43o21 : List (Nat × Pop) := [
  (0, ⟨(some 90), .mv (.tmp 11), none⟩),
  (1, ⟨(some 4), .mv (.tmp 90), none⟩)]
abbrev f43r21 : Pc := .reg f43o21 [4] [5, 6, 32, 40]
abbrev f43b : Pc := (.seq f43r0 (.seq f43r1 (.seq f43r2 (.seq (.seq f43r3 (.block 0 (.loop f43l0))) (.seq f43r10 (.seq (.seq f43r11 (.block 2 (.loop f43l2))) (.seq f43r21 .ret)))))))
abbrev f43 : Pfn := ⟨2, 91, [.tmp 4], f43b⟩
def f43K : Array (List Nat) := #[[1, 2], [1, 2, 5], [1, 2, 5, 6], [2, 5, 6, 16, 17, 18], [2, 5, 6, 16, 17, 18, 19], [2, 5, 6, 8, 16, 17, 18], [2, 5, 6, 9, 16, 17, 18], [2, 5, 6, 9, 16, 17, 18], [2, 5, 6, 16, 17, 18], [2, 5, 6, 16, 17, 18], [2, 5, 6, 11], [5, 6, 11, 48, 49, 50], [5, 6, 11, 48, 49, 50, 51], [5, 6, 11, 12, 13, 48, 49, 50], [5, 6, 11, 12, 48, 49, 50, 55, 56], [5, 6, 11, 12, 48, 49, 50, 55, 56, 57], [5, 6, 11, 12, 14, 15, 48, 49, 50, 55, 56], [5, 6, 11, 12, 14, 48, 49, 50, 55, 56, 61], [5, 6, 11, 12, 48, 49, 50, 55, 56], [5, 6, 11, 12, 48, 49, 50, 55, 56], [5, 6, 11, 48, 49, 50], [4]]
def f43H : Array (List Nat) := #[[4, 11, 87], [], [], [], [], [], [], [], [9], [], [], [2], [], [], [13], [], [], [], [], [], [], [5, 6, 32, 40]]
def f43A : Ann := ⟨fun r => f43K.getD r [], fun r => f43H.getD r [], fun r i => ([] : List (Nat × Nat)).contains (r, i)⟩
theorem f43C : compF Go.Proofs.Try.prog f43A 43 = some f43 := by kernel_rfl

/-- slices.Contains[[]bool,bool] -/
abbrev f44o0 : List (Nat × Pop) := [
  (0, ⟨(some 4), .mv (.c (.t (.b false))), none⟩)]
abbrev f44r0 : Pc := .reg f44o0 [0, 1] []
abbrev f44o1 : List (Nat × Pop) := [
  (0, ⟨(some 5), .mv (.tmp 0), none⟩),
  (1, ⟨(some 6), .mv (.tmp 1), none⟩),
  (2, ⟨(some 7), .call 68 [(.tmp 5), (.tmp 6)], none⟩),
  (3, ⟨(some 8), .bin .geq (.tmp 7) (.c (.t (.i .i64 0))), none⟩),
  (4, ⟨(some 4), .mv (.tmp 8), none⟩)]
abbrev f44r1 : Pc := .reg f44o1 [4] []
abbrev f44b : Pc := (.seq f44r0 (.seq f44r1 .ret))
abbrev f44 : Pfn := ⟨2, 9, [.tmp 4], f44b⟩
def f44K : Array (List Nat) := #[[0, 1], [4]]
def f44H : Array (List Nat) := #[[], []]
def f44A : Ann := ⟨fun r => f44K.getD r [], fun r => f44H.getD r [], fun r i => ([] : List (Nat × Nat)).contains (r, i)⟩
theorem f44C : compF Go.Proofs.Try.prog f44A 44 = some f44 := by kernel_rfl

/-- switchboard/model.Combine -/
abbrev f45o0 : List (Nat × Pop) := [
  (0, ⟨(some 6), .nilv 49 1, none⟩)]
abbrev f45r0 : Pc := .reg f45o0 [0, 1, 2] [6, 13]
abbrev f45o1 : List (Nat × Pop) := [
  (0, ⟨(some 12), .mv (.tmp 0), none⟩),
  (1, ⟨(some 13), .call 23 [(.tmp 12)], none⟩),
  (2, ⟨(some 7), .mv (.tmp 13), none⟩)]
abbrev f45r1 : Pc := .reg f45o1 [1, 2, 7] []
abbrev f45o2 : List (Nat × Pop) := [
  (0, ⟨(some 14), .mv (.tmp 1), none⟩),
  (1, ⟨(some 15), .lenL (.tmp 14), none⟩),
  (2, ⟨(some 16), .mv (.c (.t (.i .i64 0))), none⟩)]
abbrev f45r2 : Pc := .reg f45o2 [2, 7, 14, 15, 16] []
abbrev f45o3 : List (Nat × Pop) := [
  (0, ⟨(some 17), .bin .lss (.tmp 16) (.tmp 15), none⟩)]
abbrev f45r3 : Pc := .reg f45o3 [2, 7, 14, 15, 16, 17] []
abbrev f45o4 : List (Nat × Pop) := [
  (0, ⟨(some 18), .mv (.tmp 16), none⟩),
  (1, ⟨(some 19), .ixS 4 (.tmp 14) (.tmp 16), none⟩),
  (2, ⟨(some 20), .load true 4 (.tmp 19), none⟩),
  (3, ⟨(some 9), .alloc 66 [(.t (.i .i64 0)), (.t (.i .i64 0)), (.t (.i .i64 0)), (.t (.i .i64 0))], none⟩),
  (4, ⟨(some 8), .mv (.tmp 18), none⟩),
  (5, ⟨none, .store 4 (.tmp 9) (.tmp 20), none⟩)]
abbrev f45r4 : Pc := .reg f45o4 [2, 7, 8, 9, 14, 15, 16] []
abbrev f45o5 : List (Nat × Pop) := [
  (0, ⟨(some 21), .mv (.tmp 8), none⟩),
  (1, ⟨(some 22), .mv (.tmp 2), none⟩),
  (2, ⟨(some 23), .lenL (.tmp 22), none⟩),
  (3, ⟨(some 24), .bin .geq (.tmp 21) (.tmp 23), none⟩),
  (4, ⟨(some 25), .mv (.tmp 24), none⟩),
  (5, ⟨(some 26), .fad 0 (.tmp 9), (some (25, false))⟩),
  (6, ⟨(some 27), .load false 1 (.tmp 26), (some (25, false))⟩),
  (7, ⟨(some 28), .bin .lss (.tmp 27) (.c (.t (.i .i64 0))), (some (25, false))⟩),
  (8, ⟨(some 29), .pick (.tmp 25) (.c (.t (.b true))) (.tmp 28), none⟩),
  (9, ⟨(some 30), .mv (.tmp 29), none⟩),
  (10, ⟨(some 31), .fad 0 (.tmp 9), (some (30, false))⟩),
  (11, ⟨(some 32), .load false 1 (.tmp 31), (some (30, false))⟩),
  (12, ⟨(some 33), .mv (.tmp 7), (some (30, false))⟩),
  (13, ⟨(some 34), .lenL (.tmp 33), (some (30, false))⟩),
  (14, ⟨(some 35), .bin .geq (.tmp 32) (.tmp 34), (some (30, false))⟩),
  (15, ⟨(some 36), .pick (.tmp 30) (.c (.t (.b true))) (.tmp 35), none⟩)]
abbrev f45r5 : Pc := .reg f45o5 [2, 7, 8, 9, 14, 15, 16, 36] []
abbrev f45o6 : List (Nat × Pop) := [
  (0, ⟨(some 38), .mv (.tmp 7), none⟩),
  (1, ⟨(some 39), .fad 0 (.tmp 9), none⟩),
  (2, ⟨(some 40), .load false 1 (.tmp 39), none⟩),
  (3, ⟨(some 41), .ixS 1 (.tmp 38) (.tmp 40), none⟩),
  (4, ⟨(some 42), .load false 1 (.tmp 41), none⟩),
  (5, ⟨(some 43), .mv (.tmp 2), none⟩),
  (6, ⟨(some 44), .mv (.tmp 8), none⟩),
  (7, ⟨(some 45), .ixS 1 (.tmp 43) (.tmp 44), none⟩),
  (8, ⟨(some 46), .load false 1 (.tmp 45), none⟩),
  (9, ⟨(some 47), .fad 3 (.tmp 9), none⟩),
  (10, ⟨(some 48), .load false 1 (.tmp 47), none⟩),
  (11, ⟨(some 49), .callq 70 [(.tmp 46), (.tmp 48)], none⟩),
  (12, ⟨(some 50), .callq 69 [(.tmp 42), (.tmp 49)], none⟩),
  (13, ⟨(some 37), .mv (.tmp 50), none⟩),
  (14, ⟨(some 51), .ext 0 (.tmp 37), none⟩),
  (15, ⟨(some 52), .ext 1 (.tmp 37), none⟩),
  (16, ⟨(some 10), .mv (.tmp 51), none⟩),
  (17, ⟨(some 11), .mv (.tmp 52), none⟩)]
abbrev f45r6 : Pc := .reg f45o6 [2, 7, 9, 10, 11, 14, 15, 16] []
abbrev f45o7 : List (Nat × Pop) := [
  (0, ⟨(some 53), .mv (.tmp 11), none⟩)]
abbrev f45r7 : Pc := .reg f45o7 [2, 7, 9, 10, 14, 15, 16, 53] []
abbrev f45o8 : List (Nat × Pop) := [
  (0, ⟨(some 54), .mv (.tmp 7), none⟩),
  (1, ⟨(some 55), .fad 0 (.tmp 9), none⟩),
  (2, ⟨(some 56), .load false 1 (.tmp 55), none⟩),
  (3, ⟨(some 57), .mv (.tmp 10), none⟩),
  (4, ⟨(some 58), .ixS 1 (.tmp 54) (.tmp 56), none⟩),
  (5, ⟨none, .store 1 (.tmp 58) (.tmp 57), none⟩)]
abbrev f45r8 : Pc := .reg f45o8 [2, 7, 14, 15, 16] [9]
abbrev f45o9 : List (Nat × Pop) := [
  (0, ⟨(some 59), .bin .add (.tmp 16) (.c (.t (.i .i64 1))), none⟩),
  (1, ⟨(some 16), .mv (.tmp 59), none⟩)]
abbrev f45r9 : Pc := .reg f45o9 [2, 7, 14, 15, 16] [9]
def f45l0 : Pc := (.seq f45r3 (.seq (.cond (.tmp 17) .skip (.exit 0)) (.seq (.block 1 (.seq f45r4 (.seq (.seq f45r5 (.cond (.tmp 36) (.exit 1) .skip)) (.seq f45r6 (.seq f45r7 (.cond (.tmp 53) f45r8 .skip)))))) f45r9)))
theorem f45l0e (C : Cfg) (s : St) : evL C f45l0 s = evL C (.seq f45r3 (.seq (.cond (.tmp 17) .skip (.exit 0)) (.seq (.block 1 (.seq f45r4 (.seq (.seq f45r5 (.cond (.tmp 36) (.exit 1) .skip)) (.seq f45r6 (.seq f45r7 (.cond (.tmp 53) f45r8 .skip)))))) f45r9))) s := rfl
abbrev f45o10 : List (Nat × Pop) := [
  (0, ⟨(some 60), .mv (.tmp 7), none⟩),
  (1, ⟨(some 6), .mv (.tmp 60), none⟩)]
abbrev f45r10 : Pc := .reg f45o10 [6] []
abbrev f45b : Pc := (.seq f45r0 (.seq f45r1 (.seq (.seq f45r2 (.block 0 (.loop f45l0))) (.seq f45r10 .ret))))
abbrev f45 : Pfn := ⟨3, 61, [.tmp 6], f45b⟩
def f45K : Array (List Nat) := #[[0, 1, 2], [1, 2, 7], [2, 7, 14, 15, 16], [2, 7, 14, 15, 16, 17], [2, 7, 8, 9, 14, 15, 16], [2, 7, 8, 9, 14, 15, 16, 36], [2, 7, 9, 10, 11, 14, 15, 16], [2, 7, 9, 10, 14, 15, 16, 53], [2, 7, 14, 15, 16], [2, 7, 14, 15, 16], [6]]
def f45H : Array (List Nat) := #[[6, 13], [], [], [], [], [], [], [], [9], [9], []]
def f45A : Ann := ⟨fun r => f45K.getD r [], fun r => f45H.getD r [], fun r i => ([] : List (Nat × Nat)).contains (r, i)⟩
theorem f45C : compF Go.Proofs.Try.prog f45A 45 = some f45 := by kernel_rfl

/-- slices.Delete[[]string,string] -/
abbrev f46o0 : List (Nat × Pop) := [
  (0, ⟨(some 6), .nilv 9 1, none⟩)]
abbrev f46r0 : Pc := .reg f46o0 [0, 1, 2] [6]
abbrev f46o1 : List (Nat × Pop) := [
  (0, ⟨(some 8), .mv (.tmp 0), none⟩),
  (1, ⟨(some 9), .mv (.tmp 1), none⟩),
  (2, ⟨(some 10), .mv (.tmp 2), none⟩),
  (3, ⟨(some 11), .mv (.tmp 0), none⟩),
  (4, ⟨(some 12), .lenL (.tmp 11), none⟩),
  (5, ⟨(some 13), .sl3 (.tmp 8) (.tmp 9) (.tmp 10) (.tmp 12), none⟩)]
abbrev f46r1 : Pc := .reg f46o1 [0, 1, 2] []
abbrev f46o2 : List (Nat × Pop) := [
  (0, ⟨(some 14), .mv (.tmp 1), none⟩),
  (1, ⟨(some 15), .mv (.tmp 2), none⟩),
  (2, ⟨(some 16), .bin .eql (.tmp 14) (.tmp 15), none⟩)]
abbrev f46r2 : Pc := .reg f46o2 [0, 1, 2, 16] []
abbrev f46o3 : List (Nat × Pop) := [
  (0, ⟨(some 17), .mv (.tmp 0), none⟩),
  (1, ⟨(some 6), .mv (.tmp 17), none⟩)]
abbrev f46r3 : Pc := .reg f46o3 [6] []
abbrev f46o4 : List (Nat × Pop) := [
  (0, ⟨(some 18), .mv (.tmp 0), none⟩),
  (1, ⟨(some 19), .lenL (.tmp 18), none⟩),
  (2, ⟨(some 7), .mv (.tmp 19), none⟩)]
abbrev f46r4 : Pc := .reg f46o4 [0, 1, 2, 7] []
abbrev f46o5 : List (Nat × Pop) := [
  (0, ⟨(some 20), .mv (.tmp 0), none⟩),
  (1, ⟨(some 21), .mv (.tmp 1), none⟩),
  (2, ⟨(some 22), .sls 1 (.tmp 20) none (some (.tmp 21)), none⟩),
  (3, ⟨(some 23), .mv (.tmp 0), none⟩),
  (4, ⟨(some 24), .mv (.tmp 2), none⟩),
  (5, ⟨(some 25), .sls 1 (.tmp 23) (some (.tmp 24)) none, none⟩),
  (6, ⟨(some 26), .app 9 1 16 (.tmp 22) (.tmp 25), none⟩),
  (7, ⟨(some 0), .mv (.tmp 26), none⟩)]
abbrev f46r5 : Pc := .reg f46o5 [0, 7] []
abbrev f46o6 : List (Nat × Pop) := [
  (0, ⟨(some 27), .mv (.tmp 0), none⟩),
  (1, ⟨(some 28), .mv (.tmp 0), none⟩),
  (2, ⟨(some 29), .lenL (.tmp 28), none⟩),
  (3, ⟨(some 30), .mv (.tmp 7), none⟩),
  (4, ⟨(some 31), .sls 1 (.tmp 27) (some (.tmp 29)) (some (.tmp 30)), none⟩),
  (5, ⟨none, .clr 1 (.tmp 31), none⟩)]
abbrev f46r6 : Pc := .reg f46o6 [0] []
abbrev f46o7 : List (Nat × Pop) := [
  (0, ⟨(some 32), .mv (.tmp 0), none⟩),
  (1, ⟨(some 6), .mv (.tmp 32), none⟩)]
abbrev f46r7 : Pc := .reg f46o7 [6] []
abbrev f46b : Pc := (.seq f46r0 (.seq f46r1 (.seq (.seq f46r2 (.cond (.tmp 16) (.seq f46r3 .ret) .skip)) (.seq f46r4 (.seq f46r5 (.seq f46r6 (.seq f46r7 .ret)))))))
abbrev f46 : Pfn := ⟨3, 33, [.tmp 6], f46b⟩
def f46K : Array (List Nat) := #[[0, 1, 2], [0, 1, 2], [0, 1, 2, 16], [6], [0, 1, 2, 7], [0, 7], [0], [6]]
def f46H : Array (List Nat) := #[[6], [], [], [], [], [], [], []]
def f46A : Ann := ⟨fun r => f46K.getD r [], fun r => f46H.getD r [], fun r i => ([] : List (Nat × Nat)).contains (r, i)⟩
theorem f46C : compF Go.Proofs.Try.prog f46A 46 = some f46 := by kernel_rfl

/-- switchboard/wire.Put -/
abbrev f47o0 : List (Nat × Pop) := [
  (0, ⟨(some 1), .box 71 11 (.tmp 0), none⟩),
  (1, ⟨(some 2), .mv (.c (.t (.s []))), none⟩),
  (2, ⟨(some 3), .mv (.c (.t (.i .i64 0))), none⟩)]
abbrev f47r0 : Pc := .reg f47o0 [1] []
abbrev f47o1 : List (Nat × Pop) := [
  (0, ⟨(some 7), .load true 11 (.tmp 1), none⟩),
  (1, ⟨(some 8), .call 52 [(.tmp 7)], none⟩),
  (2, ⟨(some 9), .un .not (.tmp 8), none⟩)]
abbrev f47r1 : Pc := .reg f47o1 [1, 9] []
abbrev f47o2 : List (Nat × Pop) := [
  (0, ⟨(some 2), .mv (.c (.t (.s []))), none⟩),
  (1, ⟨(some 3), .mv (.c (.t (.i .i64 1))), none⟩)]
abbrev f47r2 : Pc := .reg f47o2 [2, 3] [1]
abbrev f47o3 : List (Nat × Pop) := [
  (0, ⟨(some 4), .mv (.c (.t (.s []))), none⟩)]
abbrev f47r3 : Pc := .reg f47o3 [1, 4] []
abbrev f47o4 : List (Nat × Pop) := [
  (0, ⟨(some 10), .load true 11 (.tmp 1), none⟩),
  (1, ⟨(some 11), .callo 71 [(.tmp 10)], none⟩),
  (2, ⟨(some 12), .fad 10 (.tmp 1), none⟩),
  (3, ⟨(some 13), .loadB false 1 (.tmp 12), none⟩),
  (4, ⟨(some 14), .lenL (.tmp 13), none⟩),
  (5, ⟨(some 15), .bslF 1 [(.tmp 14)], none⟩),
  (6, ⟨(some 16), .appU 3 1 8 (.tmp 11) (.tmp 15), none⟩),
  (7, ⟨(some 17), .fad 10 (.tmp 1), none⟩),
  (8, ⟨(some 18), .loadB false 1 (.tmp 17), none⟩),
  (9, ⟨(some 19), .app 3 1 8 (.tmp 16) (.tmp 18), none⟩),
  (10, ⟨(some 20), .lenL (.tmp 19), none⟩),
  (11, ⟨(some 21), .mv (.c (.t (.i .i64 0))), none⟩)]
abbrev f47r4 : Pc := .reg f47o4 [4, 19, 20, 21] [1]
abbrev f47o5 : List (Nat × Pop) := [
  (0, ⟨(some 22), .bin .lss (.tmp 21) (.tmp 20), none⟩)]
abbrev f47r5 : Pc := .reg f47o5 [4, 19, 20, 21, 22] []
abbrev f47o6 : List (Nat × Pop) := [
  (0, ⟨(some 23), .ixS 1 (.tmp 19) (.tmp 21), none⟩),
  (1, ⟨(some 24), .load false 1 (.tmp 23), none⟩),
  (2, ⟨(some 6), .mv (.tmp 24), none⟩)]
abbrev f47r6 : Pc := .reg f47o6 [4, 6, 19, 20, 21] []
abbrev f47o7 : List (Nat × Pop) := [
  (0, ⟨(some 25), .mv (.tmp 4), none⟩),
  (1, ⟨(some 26), .mv (.tmp 6), none⟩),
  (2, ⟨(some 27), .call 72 [(.tmp 26)], none⟩),
  (3, ⟨(some 28), .bin .add (.tmp 25) (.tmp 27), none⟩),
  (4, ⟨(some 4), .mv (.tmp 28), none⟩)]
abbrev f47r7 : Pc := .reg f47o7 [4, 19, 20, 21] []
abbrev f47o8 : List (Nat × Pop) := [
  (0, ⟨(some 29), .bin .add (.tmp 21) (.c (.t (.i .i64 1))), none⟩),
  (1, ⟨(some 21), .mv (.tmp 29), none⟩)]
abbrev f47r8 : Pc := .reg f47o8 [4, 19, 20, 21] []
def f47l0 : Pc := (.seq f47r5 (.seq (.cond (.tmp 22) .skip (.exit 0)) (.seq (.block 1 (.seq f47r6 f47r7)) f47r8)))
theorem f47l0e (C : Cfg) (s : St) : evL C f47l0 s = evL C (.seq f47r5 (.seq (.cond (.tmp 22) .skip (.exit 0)) (.seq (.block 1 (.seq f47r6 f47r7)) f47r8))) s := rfl
abbrev f47o9 : List (Nat × Pop) := [
  (0, ⟨(some 30), .mv (.tmp 4), none⟩),
  (1, ⟨(some 31), .mv (.tmp 4), none⟩),
  (2, ⟨(some 32), .call 50 [(.tmp 31)], none⟩),
  (3, ⟨(some 33), .call 72 [(.tmp 32)], none⟩),
  (4, ⟨(some 34), .bin .add (.tmp 30) (.tmp 33), none⟩),
  (5, ⟨(some 4), .mv (.tmp 34), none⟩)]
abbrev f47r9 : Pc := .reg f47o9 [4] [11, 16, 19]
abbrev f47o10 : List (Nat × Pop) := [
  (0, ⟨(some 35), .mv (.tmp 4), none⟩),
  (1, ⟨(some 36), .lenS (.tmp 35), none⟩),
  (2, ⟨(some 37), .call 72 [(.tmp 36)], none⟩),
  (3, ⟨(some 38), .mv (.tmp 4), none⟩),
  (4, ⟨(some 39), .bin .add (.tmp 37) (.tmp 38), none⟩),
  (5, ⟨(some 2), .mv (.tmp 39), none⟩),
  (6, ⟨(some 3), .mv (.c (.t (.i .i64 0))), none⟩)]
abbrev f47r10 : Pc := .reg f47o10 [2, 3] []
abbrev f47b : Pc := (.seq f47r0 (.seq (.seq f47r1 (.cond (.tmp 9) (.seq f47r2 .ret) .skip)) (.seq f47r3 (.seq (.seq f47r4 (.block 0 (.loop f47l0))) (.seq f47r9 (.seq f47r10 .ret))))))
abbrev f47 : Pfn := ⟨1, 40, [.tmp 2, .tmp 3], f47b⟩
def f47K : Array (List Nat) := #[[1], [1, 9], [2, 3], [1, 4], [4, 19, 20, 21], [4, 19, 20, 21, 22], [4, 6, 19, 20, 21], [4, 19, 20, 21], [4, 19, 20, 21], [4], [2, 3]]
def f47H : Array (List Nat) := #[[], [], [1], [], [1], [], [], [], [], [11, 16, 19], []]
def f47A : Ann := ⟨fun r => f47K.getD r [], fun r => f47H.getD r [], fun r i => ([(4, 8), (4, 3), (4, 2006), (4, 1)] : List (Nat × Nat)).contains (r, i)⟩
theorem f47C : compF Go.Proofs.Try.prog f47A 47 = some f47 := by kernel_rfl

/-- switchboard/bag.Put -/
abbrev f48o0 : List (Nat × Pop) := [
  (0, ⟨(some 4), .nilv 9 1, none⟩)]
abbrev f48r0 : Pc := .reg f48o0 [0, 1] [4, 7, 14]
abbrev f48o1 : List (Nat × Pop) := [
  (0, ⟨(some 6), .mv (.tmp 0), none⟩),
  (1, ⟨(some 7), .call 26 [(.tmp 6)], none⟩),
  (2, ⟨(some 5), .mv (.tmp 7), none⟩)]
abbrev f48r1 : Pc := .reg f48o1 [0, 1, 5] []
abbrev f48o2 : List (Nat × Pop) := [
  (0, ⟨(some 8), .mv (.tmp 0), none⟩),
  (1, ⟨(some 9), .lenL (.tmp 8), none⟩),
  (2, ⟨(some 10), .bin .lss (.tmp 9) (.c (.t (.i .i64 200))), none⟩)]
abbrev f48r2 : Pc := .reg f48o2 [1, 5, 10] []
abbrev f48o3 : List (Nat × Pop) := [
  (0, ⟨(some 11), .mv (.tmp 5), none⟩),
  (1, ⟨(some 12), .mv (.tmp 1), none⟩),
  (2, ⟨(some 13), .bslT 1 [(.tmp 12)], none⟩),
  (3, ⟨(some 14), .app 9 1 16 (.tmp 11) (.tmp 13), none⟩),
  (4, ⟨(some 5), .mv (.tmp 14), none⟩)]
abbrev f48r3 : Pc := .reg f48o3 [5] []
abbrev f48o4 : List (Nat × Pop) := [
  (0, ⟨(some 15), .mv (.tmp 5), none⟩),
  (1, ⟨(some 4), .mv (.tmp 15), none⟩)]
abbrev f48r4 : Pc := .reg f48o4 [4] []
abbrev f48b : Pc := (.seq f48r0 (.seq f48r1 (.seq (.seq f48r2 (.cond (.tmp 10) f48r3 .skip)) (.seq f48r4 .ret))))
abbrev f48 : Pfn := ⟨2, 16, [.tmp 4], f48b⟩
def f48K : Array (List Nat) := #[[0, 1], [0, 1, 5], [1, 5, 10], [5], [4]]
def f48H : Array (List Nat) := #[[4, 7, 14], [], [], [], []]
def f48A : Ann := ⟨fun r => f48K.getD r [], fun r => f48H.getD r [], fun r i => ([] : List (Nat × Nat)).contains (r, i)⟩
theorem f48C : compF Go.Proofs.Try.prog f48A 48 = some f48 := by kernel_rfl

/-- switchboard/wire.number -/
abbrev f49o0 : List (Nat × Pop) := [
  (0, ⟨(some 4), .mv (.c (.t (.i .i64 0))), none⟩)]
abbrev f49r0 : Pc := .reg f49o0 [0, 1] []
abbrev f49o1 : List (Nat × Pop) := [
  (0, ⟨(some 5), .mv (.c (.t (.i .i64 0))), none⟩)]
abbrev f49r1 : Pc := .reg f49o1 [0, 1, 5] []
abbrev f49o2 : List (Nat × Pop) := [
  (0, ⟨(some 6), .mv (.c (.t (.i .i64 3))), none⟩)]
abbrev f49r2 : Pc := .reg f49o2 [0, 1, 5, 6] []
abbrev f49o3 : List (Nat × Pop) := [
  (0, ⟨(some 7), .mv (.tmp 6), none⟩),
  (1, ⟨(some 8), .bin .geq (.tmp 7) (.c (.t (.i .i64 0))), none⟩)]
abbrev f49r3 : Pc := .reg f49o3 [0, 1, 5, 6, 8] []
abbrev f49o5 : List (Nat × Pop) := [
  (0, ⟨(some 11), .mv (.tmp 5), none⟩),
  (1, ⟨(some 12), .bin .shl (.tmp 11) (.c (.t (.i .u64 8))), none⟩),
  (2, ⟨(some 13), .mv (.tmp 0), none⟩),
  (3, ⟨(some 14), .mv (.tmp 1), none⟩),
  (4, ⟨(some 15), .bin .mul (.c (.t (.i .i64 4))) (.tmp 14), none⟩),
  (5, ⟨(some 16), .mv (.tmp 6), none⟩),
  (6, ⟨(some 17), .bin .add (.tmp 15) (.tmp 16), none⟩),
  (7, ⟨(some 18), .ixs (.tmp 13) (.tmp 17), none⟩),
  (8, ⟨(some 19), .cvi .i64 (.tmp 18), none⟩),
  (9, ⟨(some 20), .bin .or (.tmp 12) (.tmp 19), none⟩),
  (10, ⟨(some 5), .mv (.tmp 20), none⟩)]
abbrev f49r5 : Pc := .reg f49o5 [0, 1, 5, 6] []
abbrev f49o4 : List (Nat × Pop) := [
  (0, ⟨(some 9), .mv (.tmp 6), none⟩),
  (1, ⟨(some 10), .bin .sub (.tmp 9) (.c (.t (.i .i64 1))), none⟩),
  (2, ⟨(some 6), .mv (.tmp 10), none⟩)]
abbrev f49r4 : Pc := .reg f49o4 [0, 1, 5, 6] []
def f49l0 : Pc := (.seq (.seq f49r3 (.cond (.tmp 8) .skip (.exit 0))) (.seq (.block 1 f49r5) f49r4))
theorem f49l0e (C : Cfg) (s : St) : evL C f49l0 s = evL C (.seq (.seq f49r3 (.cond (.tmp 8) .skip (.exit 0))) (.seq (.block 1 f49r5) f49r4)) s := rfl
abbrev f49o6 : List (Nat × Pop) := [
  (0, ⟨(some 21), .mv (.tmp 5), none⟩),
  (1, ⟨(some 4), .mv (.tmp 21), none⟩)]
abbrev f49r6 : Pc := .reg f49o6 [4] []
abbrev f49b : Pc := (.seq f49r0 (.seq f49r1 (.seq (.seq f49r2 (.block 0 (.loop f49l0))) (.seq f49r6 .ret))))
abbrev f49 : Pfn := ⟨2, 22, [.tmp 4], f49b⟩
def f49K : Array (List Nat) := #[[0, 1], [0, 1, 5], [0, 1, 5, 6], [0, 1, 5, 6, 8], [0, 1, 5, 6], [0, 1, 5, 6], [4]]
def f49H : Array (List Nat) := #[[], [], [], [], [], [], []]
def f49A : Ann := ⟨fun r => f49K.getD r [], fun r => f49H.getD r [], fun r i => ([] : List (Nat × Nat)).contains (r, i)⟩
theorem f49C : compF Go.Proofs.Try.prog f49A 49 = some f49 := by kernel_rfl

/-- switchboard/crc.Sum -/
abbrev f50o0 : List (Nat × Pop) := [
  (0, ⟨(some 2), .mv (.c (.t (.i .i64 0))), none⟩)]
abbrev f50r0 : Pc := .reg f50o0 [0] []
abbrev f50o1 : List (Nat × Pop) := [
  (0, ⟨(some 3), .mv (.c (.t (.i .u32 4294967295))), none⟩)]
abbrev f50r1 : Pc := .reg f50o1 [0, 3] []
abbrev f50o2 : List (Nat × Pop) := [
  (0, ⟨(some 7), .mv (.tmp 0), none⟩),
  (1, ⟨(some 8), .sbs 5 (.tmp 7), none⟩),
  (2, ⟨(some 9), .lenL (.tmp 8), none⟩),
  (3, ⟨(some 10), .mv (.c (.t (.i .i64 0))), none⟩)]
abbrev f50r2 : Pc := .reg f50o2 [3, 8, 9, 10] []
abbrev f50o3 : List (Nat × Pop) := [
  (0, ⟨(some 11), .bin .lss (.tmp 10) (.tmp 9), none⟩)]
abbrev f50r3 : Pc := .reg f50o3 [3, 8, 9, 10, 11] []
abbrev f50o4 : List (Nat × Pop) := [
  (0, ⟨(some 12), .ixS 1 (.tmp 8) (.tmp 10), none⟩),
  (1, ⟨(some 13), .load false 1 (.tmp 12), none⟩),
  (2, ⟨(some 5), .mv (.tmp 13), none⟩)]
abbrev f50r4 : Pc := .reg f50o4 [3, 5, 8, 9, 10] []
abbrev f50o5 : List (Nat × Pop) := [
  (0, ⟨(some 14), .mv (.tmp 3), none⟩),
  (1, ⟨(some 15), .mv (.tmp 5), none⟩),
  (2, ⟨(some 16), .cvi .u32 (.tmp 15), none⟩),
  (3, ⟨(some 17), .bin .xor (.tmp 14) (.tmp 16), none⟩),
  (4, ⟨(some 3), .mv (.tmp 17), none⟩)]
abbrev f50r5 : Pc := .reg f50o5 [3, 8, 9, 10] []
abbrev f50o6 : List (Nat × Pop) := [
  (0, ⟨(some 18), .mv (.c (.t (.i .i64 0))), none⟩)]
abbrev f50r6 : Pc := .reg f50o6 [3, 8, 9, 10, 18] []
abbrev f50o7 : List (Nat × Pop) := [
  (0, ⟨(some 19), .bin .lss (.tmp 18) (.c (.t (.i .i64 8))), none⟩)]
abbrev f50r7 : Pc := .reg f50o7 [3, 8, 9, 10, 18, 19] []
abbrev f50o8 : List (Nat × Pop) := [
  (0, ⟨(some 20), .mv (.tmp 3), none⟩),
  (1, ⟨(some 21), .bin .and (.tmp 20) (.c (.t (.i .u32 1))), none⟩),
  (2, ⟨(some 6), .mv (.tmp 21), none⟩)]
abbrev f50r8 : Pc := .reg f50o8 [3, 6, 8, 9, 10, 18] []
abbrev f50o9 : List (Nat × Pop) := [
  (0, ⟨(some 22), .mv (.tmp 3), none⟩),
  (1, ⟨(some 23), .bin .shr (.tmp 22) (.c (.t (.i .u64 1))), none⟩),
  (2, ⟨(some 3), .mv (.tmp 23), none⟩)]
abbrev f50r9 : Pc := .reg f50o9 [3, 6, 8, 9, 10, 18] []
abbrev f50o10 : List (Nat × Pop) := [
  (0, ⟨(some 24), .mv (.tmp 3), none⟩),
  (1, ⟨(some 25), .mv (.tmp 6), none⟩),
  (2, ⟨(some 26), .bin .mul (.c (.t (.i .u32 3988292384))) (.tmp 25), none⟩),
  (3, ⟨(some 27), .bin .xor (.tmp 24) (.tmp 26), none⟩),
  (4, ⟨(some 3), .mv (.tmp 27), none⟩)]
abbrev f50r10 : Pc := .reg f50o10 [3, 8, 9, 10, 18] []
abbrev f50o11 : List (Nat × Pop) := [
  (0, ⟨(some 28), .bin .add (.tmp 18) (.c (.t (.i .i64 1))), none⟩),
  (1, ⟨(some 18), .mv (.tmp 28), none⟩)]
abbrev f50r11 : Pc := .reg f50o11 [3, 8, 9, 10, 18] []
def f50l0 : Pc := (.seq f50r7 (.seq (.cond (.tmp 19) .skip (.exit 2)) (.seq (.block 3 (.seq f50r8 (.seq f50r9 f50r10))) f50r11)))
theorem f50l0e (C : Cfg) (s : St) : evL C f50l0 s = evL C (.seq f50r7 (.seq (.cond (.tmp 19) .skip (.exit 2)) (.seq (.block 3 (.seq f50r8 (.seq f50r9 f50r10))) f50r11))) s := rfl
abbrev f50o12 : List (Nat × Pop) := [
  (0, ⟨(some 29), .bin .add (.tmp 10) (.c (.t (.i .i64 1))), none⟩),
  (1, ⟨(some 10), .mv (.tmp 29), none⟩)]
abbrev f50r12 : Pc := .reg f50o12 [3, 8, 9, 10] []
def f50l1 : Pc := (.seq f50r3 (.seq (.cond (.tmp 11) .skip (.exit 0)) (.seq (.block 1 (.seq f50r4 (.seq f50r5 (.seq f50r6 (.block 2 (.loop f50l0)))))) f50r12)))
theorem f50l1e (C : Cfg) (s : St) : evL C f50l1 s = evL C (.seq f50r3 (.seq (.cond (.tmp 11) .skip (.exit 0)) (.seq (.block 1 (.seq f50r4 (.seq f50r5 (.seq f50r6 (.block 2 (.loop f50l0)))))) f50r12))) s := rfl
abbrev f50o13 : List (Nat × Pop) := [
  (0, ⟨(some 30), .mv (.tmp 3), none⟩),
  (1, ⟨(some 31), .bin .xor (.tmp 30) (.c (.t (.i .u32 4294967295))), none⟩),
  (2, ⟨(some 32), .cvi .i64 (.tmp 31), none⟩),
  (3, ⟨(some 2), .mv (.tmp 32), none⟩)]
abbrev f50r13 : Pc := .reg f50o13 [2] [8]
abbrev f50b : Pc := (.seq f50r0 (.seq f50r1 (.seq (.seq f50r2 (.block 0 (.loop f50l1))) (.seq f50r13 .ret))))
abbrev f50 : Pfn := ⟨1, 33, [.tmp 2], f50b⟩
def f50K : Array (List Nat) := #[[0], [0, 3], [3, 8, 9, 10], [3, 8, 9, 10, 11], [3, 5, 8, 9, 10], [3, 8, 9, 10], [3, 8, 9, 10, 18], [3, 8, 9, 10, 18, 19], [3, 6, 8, 9, 10, 18], [3, 6, 8, 9, 10, 18], [3, 8, 9, 10, 18], [3, 8, 9, 10, 18], [3, 8, 9, 10], [2]]
def f50H : Array (List Nat) := #[[], [], [], [], [], [], [], [], [], [], [], [], [], [8]]
def f50A : Ann := ⟨fun r => f50K.getD r [], fun r => f50H.getD r [], fun r i => ([] : List (Nat × Nat)).contains (r, i)⟩
theorem f50C : compF Go.Proofs.Try.prog f50A 50 = some f50 := by kernel_rfl

/-- switchboard/wire.signed -/
abbrev f51o0 : List (Nat × Pop) := [
  (0, ⟨(some 2), .mv (.c (.t (.i .i64 0))), none⟩)]
abbrev f51r0 : Pc := .reg f51o0 [0] []
abbrev f51o1 : List (Nat × Pop) := [
  (0, ⟨(some 3), .mv (.tmp 0), none⟩),
  (1, ⟨(some 4), .cvi .i32 (.tmp 3), none⟩),
  (2, ⟨(some 5), .cvi .i64 (.tmp 4), none⟩),
  (3, ⟨(some 2), .mv (.tmp 5), none⟩)]
abbrev f51r1 : Pc := .reg f51o1 [2] []
abbrev f51b : Pc := (.seq f51r0 (.seq f51r1 .ret))
abbrev f51 : Pfn := ⟨1, 6, [.tmp 2], f51b⟩
def f51K : Array (List Nat) := #[[0], [2]]
def f51H : Array (List Nat) := #[[], []]
def f51A : Ann := ⟨fun r => f51K.getD r [], fun r => f51H.getD r [], fun r i => ([] : List (Nat × Nat)).contains (r, i)⟩
theorem f51C : compF Go.Proofs.Try.prog f51A 51 = some f51 := by kernel_rfl

/-- switchboard/wire.Right -/
abbrev f52o0 : List (Nat × Pop) := [
  (0, ⟨(some 1), .box 71 11 (.tmp 0), none⟩),
  (1, ⟨(some 2), .mv (.c (.t (.b false))), none⟩)]
abbrev f52r0 : Pc := .reg f52o0 [1] []
abbrev f52o1 : List (Nat × Pop) := [
  (0, ⟨(some 7), .load true 11 (.tmp 1), none⟩),
  (1, ⟨(some 8), .call 71 [(.tmp 7)], none⟩),
  (2, ⟨(some 9), .lenL (.tmp 8), none⟩),
  (3, ⟨(some 10), .mv (.c (.t (.i .i64 0))), none⟩)]
abbrev f52r1 : Pc := .reg f52o1 [1, 8, 9, 10] []
abbrev f52o2 : List (Nat × Pop) := [
  (0, ⟨(some 11), .bin .lss (.tmp 10) (.tmp 9), none⟩)]
abbrev f52r2 : Pc := .reg f52o2 [1, 8, 9, 10, 11] []
abbrev f52o3 : List (Nat × Pop) := [
  (0, ⟨(some 12), .ixS 1 (.tmp 8) (.tmp 10), none⟩),
  (1, ⟨(some 13), .load false 1 (.tmp 12), none⟩),
  (2, ⟨(some 4), .mv (.tmp 13), none⟩)]
abbrev f52r3 : Pc := .reg f52o3 [1, 4, 8, 9, 10] []
abbrev f52o4 : List (Nat × Pop) := [
  (0, ⟨(some 14), .mv (.tmp 4), none⟩),
  (1, ⟨(some 15), .bin .lss (.tmp 14) (.c (.t (.i .i64 0))), none⟩),
  (2, ⟨(some 16), .mv (.tmp 15), none⟩),
  (3, ⟨(some 17), .mv (.tmp 4), (some (16, false))⟩),
  (4, ⟨(some 18), .bin .gtr (.tmp 17) (.c (.t (.i .i64 2147483647))), (some (16, false))⟩),
  (5, ⟨(some 19), .pick (.tmp 16) (.c (.t (.b true))) (.tmp 18), none⟩)]
abbrev f52r4 : Pc := .reg f52o4 [1, 8, 9, 10, 19] []
abbrev f52o5 : List (Nat × Pop) := [
  (0, ⟨(some 2), .mv (.c (.t (.b false))), none⟩)]
abbrev f52r5 : Pc := .reg f52o5 [2] [1, 8]
abbrev f52o6 : List (Nat × Pop) := [
  (0, ⟨(some 20), .bin .add (.tmp 10) (.c (.t (.i .i64 1))), none⟩),
  (1, ⟨(some 10), .mv (.tmp 20), none⟩)]
abbrev f52r6 : Pc := .reg f52o6 [1, 8, 9, 10] []
def f52l0 : Pc := (.seq f52r2 (.seq (.cond (.tmp 11) .skip (.exit 0)) (.seq (.block 1 (.seq f52r3 (.seq f52r4 (.cond (.tmp 19) (.seq f52r5 .ret) .skip)))) f52r6)))
theorem f52l0e (C : Cfg) (s : St) : evL C f52l0 s = evL C (.seq f52r2 (.seq (.cond (.tmp 11) .skip (.exit 0)) (.seq (.block 1 (.seq f52r3 (.seq f52r4 (.cond (.tmp 19) (.seq f52r5 .ret) .skip)))) f52r6))) s := rfl
abbrev f52o7 : List (Nat × Pop) := [
  (0, ⟨(some 21), .fad 10 (.tmp 1), none⟩),
  (1, ⟨(some 22), .load false 1 (.tmp 21), none⟩),
  (2, ⟨(some 23), .lenL (.tmp 22), none⟩),
  (3, ⟨(some 24), .mv (.c (.t (.i .i64 0))), none⟩)]
abbrev f52r7 : Pc := .reg f52o7 [1, 22, 23, 24] [8]
abbrev f52o8 : List (Nat × Pop) := [
  (0, ⟨(some 25), .bin .lss (.tmp 24) (.tmp 23), none⟩)]
abbrev f52r8 : Pc := .reg f52o8 [1, 22, 23, 24, 25] []
abbrev f52o9 : List (Nat × Pop) := [
  (0, ⟨(some 26), .ixS 1 (.tmp 22) (.tmp 24), none⟩),
  (1, ⟨(some 27), .load false 1 (.tmp 26), none⟩),
  (2, ⟨(some 6), .mv (.tmp 27), none⟩)]
abbrev f52r9 : Pc := .reg f52o9 [1, 6, 22, 23, 24] []
abbrev f52o10 : List (Nat × Pop) := [
  (0, ⟨(some 28), .mv (.tmp 6), none⟩),
  (1, ⟨(some 29), .bin .lss (.tmp 28) (.c (.t (.i .i64 (-2147483648)))), none⟩),
  (2, ⟨(some 30), .mv (.tmp 29), none⟩),
  (3, ⟨(some 31), .mv (.tmp 6), (some (30, false))⟩),
  (4, ⟨(some 32), .bin .gtr (.tmp 31) (.c (.t (.i .i64 2147483647))), (some (30, false))⟩),
  (5, ⟨(some 33), .pick (.tmp 30) (.c (.t (.b true))) (.tmp 32), none⟩)]
abbrev f52r10 : Pc := .reg f52o10 [1, 22, 23, 24, 33] []
abbrev f52o11 : List (Nat × Pop) := [
  (0, ⟨(some 2), .mv (.c (.t (.b false))), none⟩)]
abbrev f52r11 : Pc := .reg f52o11 [2] [1]
abbrev f52o12 : List (Nat × Pop) := [
  (0, ⟨(some 34), .bin .add (.tmp 24) (.c (.t (.i .i64 1))), none⟩),
  (1, ⟨(some 24), .mv (.tmp 34), none⟩)]
abbrev f52r12 : Pc := .reg f52o12 [1, 22, 23, 24] []
def f52l1 : Pc := (.seq f52r8 (.seq (.cond (.tmp 25) .skip (.exit 2)) (.seq (.block 3 (.seq f52r9 (.seq f52r10 (.cond (.tmp 33) (.seq f52r11 .ret) .skip)))) f52r12)))
theorem f52l1e (C : Cfg) (s : St) : evL C f52l1 s = evL C (.seq f52r8 (.seq (.cond (.tmp 25) .skip (.exit 2)) (.seq (.block 3 (.seq f52r9 (.seq f52r10 (.cond (.tmp 33) (.seq f52r11 .ret) .skip)))) f52r12))) s := rfl
abbrev f52o13 : List (Nat × Pop) := [
  (0, ⟨(some 35), .fad 0 (.tmp 1), none⟩),
  (1, ⟨(some 36), .load false 1 (.tmp 35), none⟩),
  (2, ⟨(some 37), .bin .geq (.tmp 36) (.c (.t (.i .i64 1))), none⟩),
  (3, ⟨(some 38), .mv (.tmp 37), none⟩),
  (4, ⟨(some 39), .fad 0 (.tmp 1), (some (38, true))⟩),
  (5, ⟨(some 40), .load false 1 (.tmp 39), (some (38, true))⟩),
  (6, ⟨(some 41), .bin .leq (.tmp 40) (.c (.t (.i .i64 4))), (some (38, true))⟩),
  (7, ⟨(some 42), .pick (.tmp 38) (.tmp 41) (.c (.t (.b false))), none⟩),
  (8, ⟨(some 43), .mv (.tmp 42), none⟩),
  (9, ⟨(some 44), .fad 10 (.tmp 1), (some (43, true))⟩),
  (10, ⟨(some 45), .load false 1 (.tmp 44), (some (43, true))⟩),
  (11, ⟨(some 46), .lenL (.tmp 45), (some (43, true))⟩),
  (12, ⟨(some 47), .bin .leq (.tmp 46) (.c (.t (.i .i64 8))), (some (43, true))⟩),
  (13, ⟨(some 48), .pick (.tmp 43) (.tmp 47) (.c (.t (.b false))), none⟩),
  (14, ⟨(some 2), .mv (.tmp 48), none⟩)]
abbrev f52r13 : Pc := .reg f52o13 [2] [1]
abbrev f52b : Pc := (.seq f52r0 (.seq (.seq f52r1 (.block 0 (.loop f52l0))) (.seq (.seq f52r7 (.block 2 (.loop f52l1))) (.seq f52r13 .ret))))
abbrev f52 : Pfn := ⟨1, 49, [.tmp 2], f52b⟩
def f52K : Array (List Nat) := #[[1], [1, 8, 9, 10], [1, 8, 9, 10, 11], [1, 4, 8, 9, 10], [1, 8, 9, 10, 19], [2], [1, 8, 9, 10], [1, 22, 23, 24], [1, 22, 23, 24, 25], [1, 6, 22, 23, 24], [1, 22, 23, 24, 33], [2], [1, 22, 23, 24], [2]]
def f52H : Array (List Nat) := #[[], [], [], [], [], [1, 8], [], [8], [], [], [], [1], [], [1]]
def f52A : Ann := ⟨fun r => f52K.getD r [], fun r => f52H.getD r [], fun r i => ([] : List (Nat × Nat)).contains (r, i)⟩
theorem f52C : compF Go.Proofs.Try.prog f52A 52 = some f52 := by kernel_rfl

/-- slices.IndexFunc[[]switchboard/model.Part,switchboard/model.Part] -/
abbrev f53o0 : List (Nat × Pop) := [
  (0, ⟨(some 4), .mv (.c (.t (.i .i64 0))), none⟩)]
abbrev f53r0 : Pc := .reg f53o0 [0, 1] []
abbrev f53o1 : List (Nat × Pop) := [
  (0, ⟨(some 6), .mv (.tmp 0), none⟩),
  (1, ⟨(some 7), .lenL (.tmp 6), none⟩),
  (2, ⟨(some 8), .mv (.c (.t (.i .i64 0))), none⟩)]
abbrev f53r1 : Pc := .reg f53o1 [0, 1, 7, 8] []
abbrev f53o2 : List (Nat × Pop) := [
  (0, ⟨(some 9), .bin .lss (.tmp 8) (.tmp 7), none⟩)]
abbrev f53r2 : Pc := .reg f53o2 [0, 1, 7, 8, 9] []
abbrev f53o3 : List (Nat × Pop) := [
  (0, ⟨(some 10), .mv (.tmp 8), none⟩),
  (1, ⟨(some 5), .mv (.tmp 10), none⟩)]
abbrev f53r3 : Pc := .reg f53o3 [0, 1, 5, 7, 8] []
abbrev f53o4 : List (Nat × Pop) := [
  (0, ⟨(some 11), .mv (.tmp 1), none⟩),
  (1, ⟨(some 12), .mv (.tmp 0), none⟩),
  (2, ⟨(some 13), .mv (.tmp 5), none⟩),
  (3, ⟨(some 14), .ixS 4 (.tmp 12) (.tmp 13), none⟩),
  (4, ⟨(some 15), .load true 4 (.tmp 14), none⟩),
  (5, ⟨(some 16), .callv (.tmp 11) [(.tmp 15)], none⟩)]
abbrev f53r4 : Pc := .reg f53o4 [0, 1, 5, 7, 8, 16] []
abbrev f53o5 : List (Nat × Pop) := [
  (0, ⟨(some 17), .mv (.tmp 5), none⟩),
  (1, ⟨(some 4), .mv (.tmp 17), none⟩)]
abbrev f53r5 : Pc := .reg f53o5 [4] []
abbrev f53o6 : List (Nat × Pop) := [
  (0, ⟨(some 18), .bin .add (.tmp 8) (.c (.t (.i .i64 1))), none⟩),
  (1, ⟨(some 8), .mv (.tmp 18), none⟩)]
abbrev f53r6 : Pc := .reg f53o6 [0, 1, 7, 8] []
def f53l0 : Pc := (.seq f53r2 (.seq (.cond (.tmp 9) .skip (.exit 0)) (.seq (.block 1 (.seq f53r3 (.seq f53r4 (.cond (.tmp 16) (.seq f53r5 .ret) .skip)))) f53r6)))
theorem f53l0e (C : Cfg) (s : St) : evL C f53l0 s = evL C (.seq f53r2 (.seq (.cond (.tmp 9) .skip (.exit 0)) (.seq (.block 1 (.seq f53r3 (.seq f53r4 (.cond (.tmp 16) (.seq f53r5 .ret) .skip)))) f53r6))) s := rfl
abbrev f53o7 : List (Nat × Pop) := [
  (0, ⟨(some 4), .mv (.c (.t (.i .i64 (-1)))), none⟩)]
abbrev f53r7 : Pc := .reg f53o7 [4] []
abbrev f53b : Pc := (.seq f53r0 (.seq (.seq f53r1 (.block 0 (.loop f53l0))) (.seq f53r7 .ret)))
abbrev f53 : Pfn := ⟨2, 19, [.tmp 4], f53b⟩
def f53K : Array (List Nat) := #[[0, 1], [0, 1, 7, 8], [0, 1, 7, 8, 9], [0, 1, 5, 7, 8], [0, 1, 5, 7, 8, 16], [4], [0, 1, 7, 8], [4]]
def f53H : Array (List Nat) := #[[], [], [], [], [], [], [], []]
def f53A : Ann := ⟨fun r => f53K.getD r [], fun r => f53H.getD r [], fun r i => ([] : List (Nat × Nat)).contains (r, i)⟩
theorem f53C : compF Go.Proofs.Try.prog f53A 53 = some f53 := by kernel_rfl

/-- (*switchboard/fleet.Fleet).answer$1 -/
abbrev f54o0 : List (Nat × Pop) := [
  (0, ⟨(some 2), .box 66 4 (.tmp 0), none⟩),
  (1, ⟨(some 3), .mv (.c (.t (.b false))), none⟩)]
abbrev f54r0 : Pc := .reg f54o0 [1, 2] []
abbrev f54o1 : List (Nat × Pop) := [
  (0, ⟨(some 4), .fad 0 (.tmp 2), none⟩),
  (1, ⟨(some 5), .load false 1 (.tmp 4), none⟩),
  (2, ⟨(some 6), .fad 6 (.tmp 1), none⟩),
  (3, ⟨(some 7), .load false 1 (.tmp 6), none⟩),
  (4, ⟨(some 8), .bin .eql (.tmp 5) (.tmp 7), none⟩),
  (5, ⟨(some 9), .mv (.tmp 8), none⟩),
  (6, ⟨(some 10), .fad 1 (.tmp 2), (some (9, true))⟩),
  (7, ⟨(some 11), .load false 1 (.tmp 10), (some (9, true))⟩),
  (8, ⟨(some 12), .fad 7 (.tmp 1), (some (9, true))⟩),
  (9, ⟨(some 13), .load false 1 (.tmp 12), (some (9, true))⟩),
  (10, ⟨(some 14), .bin .eql (.tmp 11) (.tmp 13), (some (9, true))⟩),
  (11, ⟨(some 15), .pick (.tmp 9) (.tmp 14) (.c (.t (.b false))), none⟩),
  (12, ⟨(some 16), .mv (.tmp 15), none⟩),
  (13, ⟨(some 17), .fad 2 (.tmp 2), (some (16, true))⟩),
  (14, ⟨(some 18), .load false 1 (.tmp 17), (some (16, true))⟩),
  (15, ⟨(some 19), .fad 8 (.tmp 1), (some (16, true))⟩),
  (16, ⟨(some 20), .load false 1 (.tmp 19), (some (16, true))⟩),
  (17, ⟨(some 21), .bin .eql (.tmp 18) (.tmp 20), (some (16, true))⟩),
  (18, ⟨(some 22), .pick (.tmp 16) (.tmp 21) (.c (.t (.b false))), none⟩),
  (19, ⟨(some 3), .mv (.tmp 22), none⟩)]
abbrev f54r1 : Pc := .reg f54o1 [3] [2]
abbrev f54b : Pc := (.seq f54r0 (.seq f54r1 .ret))
abbrev f54 : Pfn := ⟨2, 23, [.tmp 3], f54b⟩
def f54K : Array (List Nat) := #[[1, 2], [3]]
def f54H : Array (List Nat) := #[[], [2]]
def f54A : Ann := ⟨fun r => f54K.getD r [], fun r => f54H.getD r [], fun r i => ([] : List (Nat × Nat)).contains (r, i)⟩
theorem f54C : compF Go.Proofs.Try.prog f54A 54 = some f54 := by kernel_rfl

/-- switchboard/node.fits -/
abbrev f55o0 : List (Nat × Pop) := [
  (0, ⟨(some 4), .box 24 2 (.tmp 0), none⟩),
  (1, ⟨(some 5), .box 27 2 (.tmp 1), none⟩),
  (2, ⟨(some 7), .box 71 11 (.tmp 3), none⟩),
  (3, ⟨(some 8), .mv (.c (.t (.b false))), none⟩)]
abbrev f55r0 : Pc := .reg f55o0 [2, 4, 5, 7] []
abbrev f55o1 : List (Nat × Pop) := [
  (0, ⟨(some 9), .load true 2 (.tmp 4), none⟩),
  (1, ⟨(some 10), .callq 18 [(.tmp 9)], none⟩),
  (2, ⟨(some 11), .mv (.tmp 10), none⟩),
  (3, ⟨(some 12), .load true 2 (.tmp 5), (some (11, true))⟩),
  (4, ⟨(some 13), .callq 20 [(.tmp 12)], (some (11, true))⟩),
  (5, ⟨(some 14), .pick (.tmp 11) (.tmp 13) (.c (.t (.b false))), none⟩),
  (6, ⟨(some 15), .mv (.tmp 14), none⟩),
  (7, ⟨(some 16), .load true 11 (.tmp 7), (some (15, true))⟩),
  (8, ⟨(some 17), .callq 52 [(.tmp 16)], (some (15, true))⟩),
  (9, ⟨(some 18), .pick (.tmp 15) (.tmp 17) (.c (.t (.b false))), none⟩),
  (10, ⟨(some 19), .mv (.tmp 18), none⟩),
  (11, ⟨(some 20), .fad 0 (.tmp 7), (some (19, true))⟩),
  (12, ⟨(some 21), .load false 1 (.tmp 20), (some (19, true))⟩),
  (13, ⟨(some 22), .bin .eql (.tmp 21) (.c (.t (.i .i64 1))), (some (19, true))⟩),
  (14, ⟨(some 23), .pick (.tmp 19) (.tmp 22) (.c (.t (.b false))), none⟩),
  (15, ⟨(some 24), .mv (.tmp 23), none⟩),
  (16, ⟨(some 25), .fad 2 (.tmp 7), (some (24, true))⟩),
  (17, ⟨(some 26), .load false 1 (.tmp 25), (some (24, true))⟩),
  (18, ⟨(some 27), .mv (.tmp 2), (some (24, true))⟩),
  (19, ⟨(some 28), .bin .eql (.tmp 26) (.tmp 27), (some (24, true))⟩),
  (20, ⟨(some 29), .pick (.tmp 24) (.tmp 28) (.c (.t (.b false))), none⟩),
  (21, ⟨(some 30), .mv (.tmp 29), none⟩),
  (22, ⟨(some 31), .fad 5 (.tmp 7), (some (30, true))⟩),
  (23, ⟨(some 32), .load false 1 (.tmp 31), (some (30, true))⟩),
  (24, ⟨(some 33), .fad 1 (.tmp 4), (some (30, true))⟩),
  (25, ⟨(some 34), .load false 1 (.tmp 33), (some (30, true))⟩),
  (26, ⟨(some 35), .lenL (.tmp 34), (some (30, true))⟩),
  (27, ⟨(some 36), .bin .lss (.tmp 32) (.tmp 35), (some (30, true))⟩),
  (28, ⟨(some 37), .pick (.tmp 30) (.tmp 36) (.c (.t (.b false))), none⟩),
  (29, ⟨(some 38), .mv (.tmp 37), none⟩),
  (30, ⟨(some 39), .fad 8 (.tmp 7), (some (38, true))⟩),
  (31, ⟨(some 40), .load false 1 (.tmp 39), (some (38, true))⟩),
  (32, ⟨(some 41), .fad 1 (.tmp 4), (some (38, true))⟩),
  (33, ⟨(some 42), .load false 1 (.tmp 41), (some (38, true))⟩),
  (34, ⟨(some 43), .fad 5 (.tmp 7), (some (38, true))⟩),
  (35, ⟨(some 44), .load false 1 (.tmp 43), (some (38, true))⟩),
  (36, ⟨(some 45), .ixS 3 (.tmp 42) (.tmp 44), (some (38, true))⟩),
  (37, ⟨(some 46), .fad 1 (.tmp 45), (some (38, true))⟩),
  (38, ⟨(some 47), .load false 1 (.tmp 46), (some (38, true))⟩),
  (39, ⟨(some 48), .lenL (.tmp 47), (some (38, true))⟩),
  (40, ⟨(some 49), .bin .lss (.tmp 40) (.tmp 48), (some (38, true))⟩),
  (41, ⟨(some 50), .pick (.tmp 38) (.tmp 49) (.c (.t (.b false))), none⟩),
  (42, ⟨(some 51), .mv (.tmp 50), none⟩),
  (43, ⟨(some 52), .load true 2 (.tmp 4), (some (51, true))⟩),
  (44, ⟨(some 53), .fad 10 (.tmp 7), (some (51, true))⟩),
  (45, ⟨(some 54), .load false 1 (.tmp 53), (some (51, true))⟩),
  (46, ⟨(some 55), .bslF 1 [(.tmp 54)], (some (51, true))⟩),
  (47, ⟨(some 56), .callq 19 [(.tmp 52), (.tmp 55)], (some (51, true))⟩),
  (48, ⟨(some 57), .pick (.tmp 51) (.tmp 56) (.c (.t (.b false))), none⟩),
  (49, ⟨(some 8), .mv (.tmp 57), none⟩)]
abbrev f55r1 : Pc := .reg f55o1 [8] [4, 5, 7]
abbrev f55b : Pc := (.seq f55r0 (.seq f55r1 .ret))
abbrev f55 : Pfn := ⟨4, 58, [.tmp 8], f55b⟩
def f55K : Array (List Nat) := #[[2, 4, 5, 7], [8]]
def f55H : Array (List Nat) := #[[], [4, 5, 7]]
def f55A : Ann := ⟨fun r => f55K.getD r [], fun r => f55H.getD r [], fun r i => ([] : List (Nat × Nat)).contains (r, i)⟩
theorem f55C : compF Go.Proofs.Try.prog f55A 55 = some f55 := by kernel_rfl

/-- switchboard/place.Holds -/
abbrev f56o0 : List (Nat × Pop) := [
  (0, ⟨(some 3), .box 27 2 (.tmp 0), none⟩),
  (1, ⟨(some 6), .mv (.c (.t (.b false))), none⟩)]
abbrev f56r0 : Pc := .reg f56o0 [1, 2, 3] []
abbrev f56o1 : List (Nat × Pop) := [
  (0, ⟨(some 7), .mv (.tmp 1), none⟩),
  (1, ⟨(some 8), .bin .geq (.tmp 7) (.c (.t (.i .i64 0))), none⟩),
  (2, ⟨(some 9), .mv (.tmp 8), none⟩),
  (3, ⟨(some 10), .mv (.tmp 1), (some (9, true))⟩),
  (4, ⟨(some 11), .fad 1 (.tmp 3), (some (9, true))⟩),
  (5, ⟨(some 12), .load false 1 (.tmp 11), (some (9, true))⟩),
  (6, ⟨(some 13), .lenL (.tmp 12), (some (9, true))⟩),
  (7, ⟨(some 14), .bin .lss (.tmp 10) (.tmp 13), (some (9, true))⟩),
  (8, ⟨(some 15), .pick (.tmp 9) (.tmp 14) (.c (.t (.b false))), none⟩),
  (9, ⟨(some 16), .mv (.tmp 15), none⟩),
  (10, ⟨(some 17), .fad 1 (.tmp 3), (some (16, true))⟩),
  (11, ⟨(some 18), .load false 1 (.tmp 17), (some (16, true))⟩),
  (12, ⟨(some 19), .mv (.tmp 1), (some (16, true))⟩),
  (13, ⟨(some 20), .ixS 1 (.tmp 18) (.tmp 19), (some (16, true))⟩),
  (14, ⟨(some 21), .load false 1 (.tmp 20), (some (16, true))⟩),
  (15, ⟨(some 22), .mv (.tmp 2), (some (16, true))⟩),
  (16, ⟨(some 23), .call 73 [(.tmp 21), (.tmp 22)], (some (16, true))⟩),
  (17, ⟨(some 24), .pick (.tmp 16) (.tmp 23) (.c (.t (.b false))), none⟩),
  (18, ⟨(some 6), .mv (.tmp 24), none⟩)]
abbrev f56r1 : Pc := .reg f56o1 [6] [3]
abbrev f56b : Pc := (.seq f56r0 (.seq f56r1 .ret))
abbrev f56 : Pfn := ⟨3, 25, [.tmp 6], f56b⟩
def f56K : Array (List Nat) := #[[1, 2, 3], [6]]
def f56H : Array (List Nat) := #[[], [3]]
def f56A : Ann := ⟨fun r => f56K.getD r [], fun r => f56H.getD r [], fun r i => ([] : List (Nat × Nat)).contains (r, i)⟩
theorem f56C : compF Go.Proofs.Try.prog f56A 56 = some f56 := by kernel_rfl

/-- switchboard/ledger.Find -/
abbrev f57o0 : List (Nat × Pop) := [
  (0, ⟨(some 3), .box 100 4 (.tmp 1), none⟩),
  (1, ⟨(some 4), .nilv 3 1, none⟩),
  (2, ⟨(some 5), .mv (.c (.t (.b false))), none⟩)]
abbrev f57r0 : Pc := .reg f57o0 [0, 3] [4, 17]
abbrev f57o1 : List (Nat × Pop) := [
  (0, ⟨(some 7), .mv (.tmp 0), none⟩),
  (1, ⟨(some 8), .mkfn 75 [(.tmp 3)], none⟩),
  (2, ⟨(some 9), .call 74 [(.tmp 7), (.tmp 8)], none⟩),
  (3, ⟨(some 6), .mv (.tmp 9), none⟩)]
abbrev f57r1 : Pc := .reg f57o1 [0, 6] []
abbrev f57o2 : List (Nat × Pop) := [
  (0, ⟨(some 10), .mv (.tmp 6), none⟩),
  (1, ⟨(some 11), .bin .lss (.tmp 10) (.c (.t (.i .i64 0))), none⟩)]
abbrev f57r2 : Pc := .reg f57o2 [0, 6, 11] []
abbrev f57o3 : List (Nat × Pop) := [
  (0, ⟨(some 4), .nilv 3 1, none⟩),
  (1, ⟨(some 5), .mv (.c (.t (.b false))), none⟩)]
abbrev f57r3 : Pc := .reg f57o3 [4, 5] [3]
abbrev f57o4 : List (Nat × Pop) := [
  (0, ⟨(some 12), .mv (.tmp 0), none⟩),
  (1, ⟨(some 13), .mv (.tmp 6), none⟩),
  (2, ⟨(some 14), .ixS 5 (.tmp 12) (.tmp 13), none⟩),
  (3, ⟨(some 15), .fad 4 (.tmp 14), none⟩),
  (4, ⟨(some 16), .load false 1 (.tmp 15), none⟩),
  (5, ⟨(some 17), .call 76 [(.tmp 16)], none⟩),
  (6, ⟨(some 4), .mv (.tmp 17), none⟩),
  (7, ⟨(some 5), .mv (.c (.t (.b true))), none⟩)]
abbrev f57r4 : Pc := .reg f57o4 [4, 5] [3]
abbrev f57b : Pc := (.seq f57r0 (.seq f57r1 (.seq (.seq f57r2 (.cond (.tmp 11) (.seq f57r3 .ret) .skip)) (.seq f57r4 .ret))))
abbrev f57 : Pfn := ⟨2, 18, [.tmp 4, .tmp 5], f57b⟩
def f57K : Array (List Nat) := #[[0, 3], [0, 6], [0, 6, 11], [4, 5], [4, 5]]
def f57H : Array (List Nat) := #[[4, 17], [], [], [3], [3]]
def f57A : Ann := ⟨fun r => f57K.getD r [], fun r => f57H.getD r [], fun r i => ([] : List (Nat × Nat)).contains (r, i)⟩
theorem f57C : compF Go.Proofs.Try.prog f57A 57 = some f57 := by kernel_rfl

/-- switchboard/expert.Run -/
abbrev f58o0 : List (Nat × Pop) := [
  (0, ⟨(some 2), .box 48 2 (.tmp 0), none⟩),
  (1, ⟨(some 4), .nilv 3 1, none⟩),
  (2, ⟨(some 5), .mv (.c (.t (.b false))), none⟩)]
abbrev f58r0 : Pc := .reg f58o0 [1, 2] [4]
abbrev f58o1 : List (Nat × Pop) := [
  (0, ⟨(some 8), .load true 2 (.tmp 2), none⟩),
  (1, ⟨(some 9), .mv (.tmp 1), none⟩),
  (2, ⟨(some 10), .lenL (.tmp 9), none⟩),
  (3, ⟨(some 11), .call 63 [(.tmp 8), (.tmp 10)], none⟩),
  (4, ⟨(some 12), .un .not (.tmp 11), none⟩)]
abbrev f58r1 : Pc := .reg f58o1 [1, 2, 12] []
abbrev f58o2 : List (Nat × Pop) := [
  (0, ⟨(some 4), .nilv 3 1, none⟩),
  (1, ⟨(some 5), .mv (.c (.t (.b false))), none⟩)]
abbrev f58r2 : Pc := .reg f58o2 [4, 5] [2]
abbrev f58o3 : List (Nat × Pop) := [
  (0, ⟨(some 14), .fad 0 (.tmp 2), none⟩),
  (1, ⟨(some 15), .load false 1 (.tmp 14), none⟩),
  (2, ⟨(some 16), .mv (.tmp 1), none⟩),
  (3, ⟨(some 17), .call 77 [(.tmp 15), (.tmp 16)], none⟩),
  (4, ⟨(some 13), .mv (.tmp 17), none⟩),
  (5, ⟨(some 18), .ext 0 (.tmp 13), none⟩),
  (6, ⟨(some 19), .ext 1 (.tmp 13), none⟩),
  (7, ⟨(some 6), .mv (.tmp 18), none⟩),
  (8, ⟨(some 7), .mv (.tmp 19), none⟩)]
abbrev f58r3 : Pc := .reg f58o3 [2, 6] []
abbrev f58o4 : List (Nat × Pop) := [
  (0, ⟨(some 20), .fad 1 (.tmp 2), none⟩),
  (1, ⟨(some 21), .load false 1 (.tmp 20), none⟩),
  (2, ⟨(some 22), .mv (.tmp 6), none⟩),
  (3, ⟨(some 23), .callq 78 [(.tmp 22)], none⟩),
  (4, ⟨(some 24), .callq 77 [(.tmp 21), (.tmp 23)], none⟩),
  (5, ⟨(some 25), .ext 0 (.tmp 24), none⟩),
  (6, ⟨(some 26), .ext 1 (.tmp 24), none⟩),
  (7, ⟨(some 4), .mv (.tmp 25), none⟩),
  (8, ⟨(some 5), .mv (.tmp 26), none⟩)]
abbrev f58r4 : Pc := .reg f58o4 [4, 5] [2]
abbrev f58b : Pc := (.seq f58r0 (.seq (.seq f58r1 (.cond (.tmp 12) (.seq f58r2 .ret) .skip)) (.seq f58r3 (.seq f58r4 .ret))))
abbrev f58 : Pfn := ⟨2, 27, [.tmp 4, .tmp 5], f58b⟩
def f58K : Array (List Nat) := #[[1, 2], [1, 2, 12], [4, 5], [2, 6], [4, 5]]
def f58H : Array (List Nat) := #[[4], [], [2], [], [2]]
def f58A : Ann := ⟨fun r => f58K.getD r [], fun r => f58H.getD r [], fun r i => ([] : List (Nat × Nat)).contains (r, i)⟩
theorem f58C : compF Go.Proofs.Try.prog f58A 58 = some f58 := by kernel_rfl

/-- switchboard/ledger.Enter -/
abbrev f59o0 : List (Nat × Pop) := [
  (0, ⟨(some 4), .box 100 4 (.tmp 1), none⟩),
  (1, ⟨(some 6), .nilv 129 5, none⟩),
  (2, ⟨(some 7), .mv (.c (.t (.b false))), none⟩)]
abbrev f59r0 : Pc := .reg f59o0 [0, 2, 4] [6, 19, 25]
abbrev f59o1 : List (Nat × Pop) := [
  (0, ⟨(some 11), .mv (.tmp 0), none⟩),
  (1, ⟨(some 12), .load true 4 (.tmp 4), none⟩),
  (2, ⟨(some 13), .call 57 [(.tmp 11), (.tmp 12)], none⟩),
  (3, ⟨(some 10), .mv (.tmp 13), none⟩),
  (4, ⟨(some 14), .ext 0 (.tmp 10), none⟩),
  (5, ⟨(some 15), .ext 1 (.tmp 10), none⟩),
  (6, ⟨(some 8), .mv (.tmp 14), none⟩),
  (7, ⟨(some 9), .mv (.tmp 15), none⟩)]
abbrev f59r1 : Pc := .reg f59o1 [0, 2, 4, 9] []
abbrev f59o2 : List (Nat × Pop) := [
  (0, ⟨(some 16), .mv (.tmp 9), none⟩)]
abbrev f59r2 : Pc := .reg f59o2 [0, 2, 4, 16] []
abbrev f59o3 : List (Nat × Pop) := [
  (0, ⟨(some 17), .mv (.tmp 0), none⟩),
  (1, ⟨(some 6), .mv (.tmp 17), none⟩),
  (2, ⟨(some 7), .mv (.c (.t (.b false))), none⟩)]
abbrev f59r3 : Pc := .reg f59o3 [6, 7] [4]
abbrev f59o4 : List (Nat × Pop) := [
  (0, ⟨(some 18), .mv (.tmp 0), none⟩),
  (1, ⟨(some 19), .callo 79 [(.tmp 18)], none⟩),
  (2, ⟨(some 20), .loadB true 4 (.tmp 4), none⟩),
  (3, ⟨(some 21), .mv (.tmp 2), none⟩),
  (4, ⟨(some 22), .callq 76 [(.tmp 21)], none⟩),
  (5, ⟨(some 23), .build [(.t (.i .i64 0)), (.t (.i .i64 0)), (.t (.i .i64 0)), (.t (.i .i64 0)), .nl] [(0, 4, (.tmp 20)), (4, 1, (.tmp 22))], none⟩),
  (6, ⟨(some 24), .bslT 5 [(.tmp 23)], none⟩),
  (7, ⟨(some 25), .app 129 5 56 (.tmp 19) (.tmp 24), none⟩),
  (8, ⟨(some 6), .mv (.tmp 25), none⟩),
  (9, ⟨(some 7), .mv (.c (.t (.b true))), none⟩)]
abbrev f59r4 : Pc := .reg f59o4 [6, 7] [4]
abbrev f59b : Pc := (.seq f59r0 (.seq (.seq f59r1 (.seq f59r2 (.cond (.tmp 16) (.seq f59r3 .ret) .skip))) (.seq f59r4 .ret)))
abbrev f59 : Pfn := ⟨3, 26, [.tmp 6, .tmp 7], f59b⟩
def f59K : Array (List Nat) := #[[0, 2, 4], [0, 2, 4, 9], [0, 2, 4, 16], [6, 7], [6, 7]]
def f59H : Array (List Nat) := #[[6, 19, 25], [], [], [4], [4]]
def f59A : Ann := ⟨fun r => f59K.getD r [], fun r => f59H.getD r [], fun r i => ([(4, 1), (4, 2)] : List (Nat × Nat)).contains (r, i)⟩
theorem f59C : compF Go.Proofs.Try.prog f59A 59 = some f59 := by kernel_rfl

/-- switchboard/mat.Right -/
abbrev f60o0 : List (Nat × Pop) := [
  (0, ⟨(some 5), .box 3 1 (.tmp 2), none⟩),
  (1, ⟨(some 6), .mv (.c (.t (.b false))), none⟩)]
abbrev f60r0 : Pc := .reg f60o0 [0, 1, 5] []
abbrev f60o1 : List (Nat × Pop) := [
  (0, ⟨(some 7), .mv (.tmp 0), none⟩),
  (1, ⟨(some 8), .lenL (.tmp 7), none⟩),
  (2, ⟨(some 9), .mv (.tmp 1), none⟩),
  (3, ⟨(some 10), .bin .eql (.tmp 8) (.tmp 9), none⟩),
  (4, ⟨(some 11), .mv (.tmp 10), none⟩),
  (5, ⟨(some 12), .mv (.tmp 0), (some (11, true))⟩),
  (6, ⟨(some 13), .mkfn 80 [(.tmp 5)], (some (11, true))⟩),
  (7, ⟨(some 14), .call 37 [(.tmp 12), (.tmp 13)], (some (11, true))⟩),
  (8, ⟨(some 15), .un .not (.tmp 14), (some (11, true))⟩),
  (9, ⟨(some 16), .pick (.tmp 11) (.tmp 15) (.c (.t (.b false))), none⟩),
  (10, ⟨(some 6), .mv (.tmp 16), none⟩)]
abbrev f60r1 : Pc := .reg f60o1 [6] [5]
abbrev f60b : Pc := (.seq f60r0 (.seq f60r1 .ret))
abbrev f60 : Pfn := ⟨3, 17, [.tmp 6], f60b⟩
def f60K : Array (List Nat) := #[[0, 1, 5], [6]]
def f60H : Array (List Nat) := #[[], [5]]
def f60A : Ann := ⟨fun r => f60K.getD r [], fun r => f60H.getD r [], fun r i => ([] : List (Nat × Nat)).contains (r, i)⟩
theorem f60C : compF Go.Proofs.Try.prog f60A 60 = some f60 := by kernel_rfl

/-- slices.ContainsFunc[[]switchboard/api.Expert,switchboard/api.Expert] -/
abbrev f61o0 : List (Nat × Pop) := [
  (0, ⟨(some 4), .mv (.c (.t (.b false))), none⟩)]
abbrev f61r0 : Pc := .reg f61o0 [0, 1] []
abbrev f61o1 : List (Nat × Pop) := [
  (0, ⟨(some 5), .mv (.tmp 0), none⟩),
  (1, ⟨(some 6), .mv (.tmp 1), none⟩),
  (2, ⟨(some 7), .call 82 [(.tmp 5), (.tmp 6)], none⟩),
  (3, ⟨(some 8), .bin .geq (.tmp 7) (.c (.t (.i .i64 0))), none⟩),
  (4, ⟨(some 4), .mv (.tmp 8), none⟩)]
abbrev f61r1 : Pc := .reg f61o1 [4] []
abbrev f61b : Pc := (.seq f61r0 (.seq f61r1 .ret))
abbrev f61 : Pfn := ⟨2, 9, [.tmp 4], f61b⟩
def f61K : Array (List Nat) := #[[0, 1], [4]]
def f61H : Array (List Nat) := #[[], []]
def f61A : Ann := ⟨fun r => f61K.getD r [], fun r => f61H.getD r [], fun r i => ([] : List (Nat × Nat)).contains (r, i)⟩
theorem f61C : compF Go.Proofs.Try.prog f61A 61 = some f61 := by kernel_rfl

/-- switchboard/model.layer$1 -/
abbrev f62o0 : List (Nat × Pop) := [
  (0, ⟨(some 2), .box 48 2 (.tmp 0), none⟩),
  (1, ⟨(some 3), .mv (.c (.t (.b false))), none⟩)]
abbrev f62r0 : Pc := .reg f62o0 [1, 2] []
abbrev f62o1 : List (Nat × Pop) := [
  (0, ⟨(some 4), .load true 2 (.tmp 2), none⟩),
  (1, ⟨(some 5), .load false 1 (.tmp 1), none⟩),
  (2, ⟨(some 6), .call 63 [(.tmp 4), (.tmp 5)], none⟩),
  (3, ⟨(some 7), .un .not (.tmp 6), none⟩),
  (4, ⟨(some 3), .mv (.tmp 7), none⟩)]
abbrev f62r1 : Pc := .reg f62o1 [3] [2]
abbrev f62b : Pc := (.seq f62r0 (.seq f62r1 .ret))
abbrev f62 : Pfn := ⟨2, 8, [.tmp 3], f62b⟩
def f62K : Array (List Nat) := #[[1, 2], [3]]
def f62H : Array (List Nat) := #[[], [2]]
def f62A : Ann := ⟨fun r => f62K.getD r [], fun r => f62H.getD r [], fun r i => ([] : List (Nat × Nat)).contains (r, i)⟩
theorem f62C : compF Go.Proofs.Try.prog f62A 62 = some f62 := by kernel_rfl

/-- switchboard/expert.Right -/
abbrev f63o0 : List (Nat × Pop) := [
  (0, ⟨(some 2), .box 48 2 (.tmp 0), none⟩),
  (1, ⟨(some 4), .mv (.c (.t (.b false))), none⟩)]
abbrev f63r0 : Pc := .reg f63o0 [1, 2] []
abbrev f63o1 : List (Nat × Pop) := [
  (0, ⟨(some 6), .fad 0 (.tmp 2), none⟩),
  (1, ⟨(some 7), .load false 1 (.tmp 6), none⟩),
  (2, ⟨(some 8), .lenL (.tmp 7), none⟩),
  (3, ⟨(some 5), .mv (.tmp 8), none⟩)]
abbrev f63r1 : Pc := .reg f63o1 [1, 2, 5] []
abbrev f63o2 : List (Nat × Pop) := [
  (0, ⟨(some 9), .mv (.tmp 1), none⟩),
  (1, ⟨(some 10), .bin .geq (.tmp 9) (.c (.t (.i .i64 1))), none⟩),
  (2, ⟨(some 11), .mv (.tmp 10), none⟩),
  (3, ⟨(some 12), .mv (.tmp 1), (some (11, true))⟩),
  (4, ⟨(some 13), .bin .leq (.tmp 12) (.c (.t (.i .i64 8))), (some (11, true))⟩),
  (5, ⟨(some 14), .pick (.tmp 11) (.tmp 13) (.c (.t (.b false))), none⟩),
  (6, ⟨(some 15), .mv (.tmp 14), none⟩),
  (7, ⟨(some 16), .mv (.tmp 5), (some (15, true))⟩),
  (8, ⟨(some 17), .bin .geq (.tmp 16) (.c (.t (.i .i64 1))), (some (15, true))⟩),
  (9, ⟨(some 18), .pick (.tmp 15) (.tmp 17) (.c (.t (.b false))), none⟩),
  (10, ⟨(some 19), .mv (.tmp 18), none⟩),
  (11, ⟨(some 20), .mv (.tmp 5), (some (19, true))⟩),
  (12, ⟨(some 21), .bin .leq (.tmp 20) (.c (.t (.i .i64 8))), (some (19, true))⟩),
  (13, ⟨(some 22), .pick (.tmp 19) (.tmp 21) (.c (.t (.b false))), none⟩),
  (14, ⟨(some 23), .mv (.tmp 22), none⟩),
  (15, ⟨(some 24), .fad 0 (.tmp 2), (some (23, true))⟩),
  (16, ⟨(some 25), .load false 1 (.tmp 24), (some (23, true))⟩),
  (17, ⟨(some 26), .mv (.tmp 5), (some (23, true))⟩),
  (18, ⟨(some 27), .mv (.tmp 1), (some (23, true))⟩),
  (19, ⟨(some 28), .call 60 [(.tmp 25), (.tmp 26), (.tmp 27)], (some (23, true))⟩),
  (20, ⟨(some 29), .pick (.tmp 23) (.tmp 28) (.c (.t (.b false))), none⟩),
  (21, ⟨(some 30), .mv (.tmp 29), none⟩),
  (22, ⟨(some 31), .fad 1 (.tmp 2), (some (30, true))⟩),
  (23, ⟨(some 32), .load false 1 (.tmp 31), (some (30, true))⟩),
  (24, ⟨(some 33), .mv (.tmp 1), (some (30, true))⟩),
  (25, ⟨(some 34), .mv (.tmp 5), (some (30, true))⟩),
  (26, ⟨(some 35), .call 60 [(.tmp 32), (.tmp 33), (.tmp 34)], (some (30, true))⟩),
  (27, ⟨(some 36), .pick (.tmp 30) (.tmp 35) (.c (.t (.b false))), none⟩),
  (28, ⟨(some 4), .mv (.tmp 36), none⟩)]
abbrev f63r2 : Pc := .reg f63o2 [4] [2]
abbrev f63b : Pc := (.seq f63r0 (.seq f63r1 (.seq f63r2 .ret)))
abbrev f63 : Pfn := ⟨2, 37, [.tmp 4], f63b⟩
def f63K : Array (List Nat) := #[[1, 2], [1, 2, 5], [4]]
def f63H : Array (List Nat) := #[[], [], [2]]
def f63A : Ann := ⟨fun r => f63K.getD r [], fun r => f63H.getD r [], fun r i => ([] : List (Nat × Nat)).contains (r, i)⟩
theorem f63C : compF Go.Proofs.Try.prog f63A 63 = some f63 := by kernel_rfl

/-- slices.IndexFunc[[][]int,[]int] -/
abbrev f64o0 : List (Nat × Pop) := [
  (0, ⟨(some 4), .mv (.c (.t (.i .i64 0))), none⟩)]
abbrev f64r0 : Pc := .reg f64o0 [0, 1] []
abbrev f64o1 : List (Nat × Pop) := [
  (0, ⟨(some 6), .mv (.tmp 0), none⟩),
  (1, ⟨(some 7), .lenL (.tmp 6), none⟩),
  (2, ⟨(some 8), .mv (.c (.t (.i .i64 0))), none⟩)]
abbrev f64r1 : Pc := .reg f64o1 [0, 1, 7, 8] []
abbrev f64o2 : List (Nat × Pop) := [
  (0, ⟨(some 9), .bin .lss (.tmp 8) (.tmp 7), none⟩)]
abbrev f64r2 : Pc := .reg f64o2 [0, 1, 7, 8, 9] []
abbrev f64o3 : List (Nat × Pop) := [
  (0, ⟨(some 10), .mv (.tmp 8), none⟩),
  (1, ⟨(some 5), .mv (.tmp 10), none⟩)]
abbrev f64r3 : Pc := .reg f64o3 [0, 1, 5, 7, 8] []
abbrev f64o4 : List (Nat × Pop) := [
  (0, ⟨(some 11), .mv (.tmp 1), none⟩),
  (1, ⟨(some 12), .mv (.tmp 0), none⟩),
  (2, ⟨(some 13), .mv (.tmp 5), none⟩),
  (3, ⟨(some 14), .ixS 1 (.tmp 12) (.tmp 13), none⟩),
  (4, ⟨(some 15), .load false 1 (.tmp 14), none⟩),
  (5, ⟨(some 16), .callv (.tmp 11) [(.tmp 15)], none⟩)]
abbrev f64r4 : Pc := .reg f64o4 [0, 1, 5, 7, 8, 16] []
abbrev f64o5 : List (Nat × Pop) := [
  (0, ⟨(some 17), .mv (.tmp 5), none⟩),
  (1, ⟨(some 4), .mv (.tmp 17), none⟩)]
abbrev f64r5 : Pc := .reg f64o5 [4] []
abbrev f64o6 : List (Nat × Pop) := [
  (0, ⟨(some 18), .bin .add (.tmp 8) (.c (.t (.i .i64 1))), none⟩),
  (1, ⟨(some 8), .mv (.tmp 18), none⟩)]
abbrev f64r6 : Pc := .reg f64o6 [0, 1, 7, 8] []
def f64l0 : Pc := (.seq f64r2 (.seq (.cond (.tmp 9) .skip (.exit 0)) (.seq (.block 1 (.seq f64r3 (.seq f64r4 (.cond (.tmp 16) (.seq f64r5 .ret) .skip)))) f64r6)))
theorem f64l0e (C : Cfg) (s : St) : evL C f64l0 s = evL C (.seq f64r2 (.seq (.cond (.tmp 9) .skip (.exit 0)) (.seq (.block 1 (.seq f64r3 (.seq f64r4 (.cond (.tmp 16) (.seq f64r5 .ret) .skip)))) f64r6))) s := rfl
abbrev f64o7 : List (Nat × Pop) := [
  (0, ⟨(some 4), .mv (.c (.t (.i .i64 (-1)))), none⟩)]
abbrev f64r7 : Pc := .reg f64o7 [4] []
abbrev f64b : Pc := (.seq f64r0 (.seq (.seq f64r1 (.block 0 (.loop f64l0))) (.seq f64r7 .ret)))
abbrev f64 : Pfn := ⟨2, 19, [.tmp 4], f64b⟩
def f64K : Array (List Nat) := #[[0, 1], [0, 1, 7, 8], [0, 1, 7, 8, 9], [0, 1, 5, 7, 8], [0, 1, 5, 7, 8, 16], [4], [0, 1, 7, 8], [4]]
def f64H : Array (List Nat) := #[[], [], [], [], [], [], [], []]
def f64A : Ann := ⟨fun r => f64K.getD r [], fun r => f64H.getD r [], fun r i => ([] : List (Nat × Nat)).contains (r, i)⟩
theorem f64C : compF Go.Proofs.Try.prog f64A 64 = some f64 := by kernel_rfl

/-- slices.IndexFunc[[]int,int] -/
abbrev f65o0 : List (Nat × Pop) := [
  (0, ⟨(some 4), .mv (.c (.t (.i .i64 0))), none⟩)]
abbrev f65r0 : Pc := .reg f65o0 [0, 1] []
abbrev f65o1 : List (Nat × Pop) := [
  (0, ⟨(some 6), .mv (.tmp 0), none⟩),
  (1, ⟨(some 7), .lenL (.tmp 6), none⟩),
  (2, ⟨(some 8), .mv (.c (.t (.i .i64 0))), none⟩)]
abbrev f65r1 : Pc := .reg f65o1 [0, 1, 7, 8] []
abbrev f65o2 : List (Nat × Pop) := [
  (0, ⟨(some 9), .bin .lss (.tmp 8) (.tmp 7), none⟩)]
abbrev f65r2 : Pc := .reg f65o2 [0, 1, 7, 8, 9] []
abbrev f65o3 : List (Nat × Pop) := [
  (0, ⟨(some 10), .mv (.tmp 8), none⟩),
  (1, ⟨(some 5), .mv (.tmp 10), none⟩)]
abbrev f65r3 : Pc := .reg f65o3 [0, 1, 5, 7, 8] []
abbrev f65o4 : List (Nat × Pop) := [
  (0, ⟨(some 11), .mv (.tmp 1), none⟩),
  (1, ⟨(some 12), .mv (.tmp 0), none⟩),
  (2, ⟨(some 13), .mv (.tmp 5), none⟩),
  (3, ⟨(some 14), .ixS 1 (.tmp 12) (.tmp 13), none⟩),
  (4, ⟨(some 15), .load false 1 (.tmp 14), none⟩),
  (5, ⟨(some 16), .callv (.tmp 11) [(.tmp 15)], none⟩)]
abbrev f65r4 : Pc := .reg f65o4 [0, 1, 5, 7, 8, 16] []
abbrev f65o5 : List (Nat × Pop) := [
  (0, ⟨(some 17), .mv (.tmp 5), none⟩),
  (1, ⟨(some 4), .mv (.tmp 17), none⟩)]
abbrev f65r5 : Pc := .reg f65o5 [4] []
abbrev f65o6 : List (Nat × Pop) := [
  (0, ⟨(some 18), .bin .add (.tmp 8) (.c (.t (.i .i64 1))), none⟩),
  (1, ⟨(some 8), .mv (.tmp 18), none⟩)]
abbrev f65r6 : Pc := .reg f65o6 [0, 1, 7, 8] []
def f65l0 : Pc := (.seq f65r2 (.seq (.cond (.tmp 9) .skip (.exit 0)) (.seq (.block 1 (.seq f65r3 (.seq f65r4 (.cond (.tmp 16) (.seq f65r5 .ret) .skip)))) f65r6)))
theorem f65l0e (C : Cfg) (s : St) : evL C f65l0 s = evL C (.seq f65r2 (.seq (.cond (.tmp 9) .skip (.exit 0)) (.seq (.block 1 (.seq f65r3 (.seq f65r4 (.cond (.tmp 16) (.seq f65r5 .ret) .skip)))) f65r6))) s := rfl
abbrev f65o7 : List (Nat × Pop) := [
  (0, ⟨(some 4), .mv (.c (.t (.i .i64 (-1)))), none⟩)]
abbrev f65r7 : Pc := .reg f65o7 [4] []
abbrev f65b : Pc := (.seq f65r0 (.seq (.seq f65r1 (.block 0 (.loop f65l0))) (.seq f65r7 .ret)))
abbrev f65 : Pfn := ⟨2, 19, [.tmp 4], f65b⟩
def f65K : Array (List Nat) := #[[0, 1], [0, 1, 7, 8], [0, 1, 7, 8, 9], [0, 1, 5, 7, 8], [0, 1, 5, 7, 8, 16], [4], [0, 1, 7, 8], [4]]
def f65H : Array (List Nat) := #[[], [], [], [], [], [], [], []]
def f65A : Ann := ⟨fun r => f65K.getD r [], fun r => f65H.getD r [], fun r i => ([] : List (Nat × Nat)).contains (r, i)⟩
theorem f65C : compF Go.Proofs.Try.prog f65A 65 = some f65 := by kernel_rfl

/-- switchboard/gate.Choose -/
abbrev f66o0 : List (Nat × Pop) := [
  (0, ⟨(some 4), .alloc 113 [(.t (.i .i64 0)), (.t (.i .i64 0)), (.t (.i .i64 0)), (.t (.i .i64 0))], none⟩),
  (1, ⟨(some 5), .mv (.c (.t (.b false))), none⟩)]
abbrev f66r0 : Pc := .reg f66o0 [0, 1, 4] []
abbrev f66o1 : List (Nat × Pop) := [
  (0, ⟨(some 10), .mv (.tmp 0), none⟩),
  (1, ⟨(some 11), .mv (.tmp 1), none⟩),
  (2, ⟨(some 12), .call 77 [(.tmp 10), (.tmp 11)], none⟩),
  (3, ⟨(some 9), .mv (.tmp 12), none⟩),
  (4, ⟨(some 13), .ext 0 (.tmp 9), none⟩),
  (5, ⟨(some 14), .ext 1 (.tmp 9), none⟩),
  (6, ⟨(some 6), .mv (.tmp 13), none⟩),
  (7, ⟨(some 7), .mv (.tmp 14), none⟩)]
abbrev f66r1 : Pc := .reg f66o1 [0, 4, 6, 7] []
abbrev f66o2 : List (Nat × Pop) := [
  (0, ⟨(some 15), .mv (.tmp 7), none⟩),
  (1, ⟨(some 16), .un .not (.tmp 15), none⟩),
  (2, ⟨(some 17), .mv (.tmp 16), none⟩),
  (3, ⟨(some 18), .mv (.tmp 0), (some (17, false))⟩),
  (4, ⟨(some 19), .lenL (.tmp 18), (some (17, false))⟩),
  (5, ⟨(some 20), .bin .eql (.tmp 19) (.c (.t (.i .i64 0))), (some (17, false))⟩),
  (6, ⟨(some 21), .pick (.tmp 17) (.c (.t (.b true))) (.tmp 20), none⟩)]
abbrev f66r2 : Pc := .reg f66o2 [4, 6, 21] []
abbrev f66o3 : List (Nat × Pop) := [
  (0, ⟨(some 22), .build [(.t (.i .i64 0)), (.t (.i .i64 0)), (.t (.i .i64 0)), (.t (.i .i64 0))] [], none⟩),
  (1, ⟨none, .store 4 (.tmp 4) (.tmp 22), none⟩),
  (2, ⟨(some 5), .mv (.c (.t (.b false))), none⟩)]
abbrev f66r3 : Pc := .reg f66o3 [4, 5] []
abbrev f66o4 : List (Nat × Pop) := [
  (0, ⟨(some 23), .build [(.t (.i .i64 0)), (.t (.i .i64 0)), (.t (.i .i64 0)), (.t (.i .i64 0))] [(2, 1, (.c (.t (.i .i64 65536))))], none⟩),
  (1, ⟨(some 8), .alloc 113 [(.t (.i .i64 0)), (.t (.i .i64 0)), (.t (.i .i64 0)), (.t (.i .i64 0))], none⟩),
  (2, ⟨none, .store 4 (.tmp 8) (.tmp 23), none⟩)]
abbrev f66r4 : Pc := .reg f66o4 [4, 6, 8] []
abbrev f66o5 : List (Nat × Pop) := [
  (0, ⟨(some 25), .mv (.tmp 6), none⟩),
  (1, ⟨(some 26), .call 83 [(.tmp 25)], none⟩),
  (2, ⟨(some 24), .mv (.tmp 26), none⟩),
  (3, ⟨(some 27), .ext 0 (.tmp 24), none⟩),
  (4, ⟨(some 28), .ext 1 (.tmp 24), none⟩),
  (5, ⟨(some 29), .fad 0 (.tmp 8), none⟩),
  (6, ⟨none, .store 1 (.tmp 29) (.tmp 27), none⟩),
  (7, ⟨(some 30), .fad 1 (.tmp 8), none⟩),
  (8, ⟨none, .store 1 (.tmp 30) (.tmp 28), none⟩)]
abbrev f66r5 : Pc := .reg f66o5 [4, 6, 8] []
abbrev f66o6 : List (Nat × Pop) := [
  (0, ⟨(some 31), .fad 1 (.tmp 8), none⟩),
  (1, ⟨(some 32), .load false 1 (.tmp 31), none⟩),
  (2, ⟨(some 33), .bin .geq (.tmp 32) (.c (.t (.i .i64 0))), none⟩)]
abbrev f66r6 : Pc := .reg f66o6 [4, 6, 8, 33] []
abbrev f66o7 : List (Nat × Pop) := [
  (0, ⟨(some 35), .mv (.tmp 6), none⟩),
  (1, ⟨(some 36), .fad 0 (.tmp 8), none⟩),
  (2, ⟨(some 37), .load false 1 (.tmp 36), none⟩),
  (3, ⟨(some 38), .ixS 1 (.tmp 35) (.tmp 37), none⟩),
  (4, ⟨(some 39), .load false 1 (.tmp 38), none⟩),
  (5, ⟨(some 40), .mv (.tmp 6), none⟩),
  (6, ⟨(some 41), .fad 1 (.tmp 8), none⟩),
  (7, ⟨(some 42), .load false 1 (.tmp 41), none⟩),
  (8, ⟨(some 43), .ixS 1 (.tmp 40) (.tmp 42), none⟩),
  (9, ⟨(some 44), .load false 1 (.tmp 43), none⟩),
  (10, ⟨(some 45), .callq 84 [(.tmp 39), (.tmp 44)], none⟩),
  (11, ⟨(some 34), .mv (.tmp 45), none⟩),
  (12, ⟨(some 46), .ext 0 (.tmp 34), none⟩),
  (13, ⟨(some 47), .ext 1 (.tmp 34), none⟩),
  (14, ⟨(some 48), .fad 2 (.tmp 8), none⟩),
  (15, ⟨none, .store 1 (.tmp 48) (.tmp 46), none⟩),
  (16, ⟨(some 49), .fad 3 (.tmp 8), none⟩),
  (17, ⟨none, .store 1 (.tmp 49) (.tmp 47), none⟩)]
abbrev f66r7 : Pc := .reg f66o7 [4, 8] []
abbrev f66o8 : List (Nat × Pop) := [
  (0, ⟨(some 50), .load true 4 (.tmp 8), none⟩),
  (1, ⟨none, .store 4 (.tmp 4) (.tmp 50), none⟩),
  (2, ⟨(some 5), .mv (.c (.t (.b true))), none⟩)]
abbrev f66r8 : Pc := .reg f66o8 [4, 5] [8]
abbrev f66b : Pc := (.seq f66r0 (.seq f66r1 (.seq (.seq f66r2 (.cond (.tmp 21) (.seq f66r3 .ret) .skip)) (.seq f66r4 (.seq f66r5 (.seq (.seq f66r6 (.cond (.tmp 33) f66r7 .skip)) (.seq f66r8 .ret)))))))
abbrev f66 : Pfn := ⟨2, 51, [.cell 4 true 4, .tmp 5], f66b⟩
def f66K : Array (List Nat) := #[[0, 1, 4], [0, 4, 6, 7], [4, 6, 21], [4, 5], [4, 6, 8], [4, 6, 8], [4, 6, 8, 33], [4, 8], [4, 5]]
def f66H : Array (List Nat) := #[[], [], [], [], [], [], [], [], [8]]
def f66A : Ann := ⟨fun r => f66K.getD r [], fun r => f66H.getD r [], fun r i => ([] : List (Nat × Nat)).contains (r, i)⟩
theorem f66C : compF Go.Proofs.Try.prog f66A 66 = some f66 := by kernel_rfl

/-- switchboard/slots.Assign -/
abbrev f67o0 : List (Nat × Pop) := [
  (0, ⟨(some 6), .nilv 116 2, none⟩)]
abbrev f67r0 : Pc := .reg f67o0 [0, 1, 2] [6, 8, 54]
abbrev f67o1 : List (Nat × Pop) := [
  (0, ⟨(some 14), .mkm, none⟩),
  (1, ⟨(some 7), .mv (.tmp 14), none⟩)]
abbrev f67r1 : Pc := .reg f67o1 [0, 1, 2, 7] []
abbrev f67o2 : List (Nat × Pop) := [
  (0, ⟨(some 8), .nilv 116 2, none⟩)]
abbrev f67r2 : Pc := .reg f67o2 [0, 1, 2, 7, 8] []
abbrev f67o3 : List (Nat × Pop) := [
  (0, ⟨(some 15), .mv (.tmp 0), none⟩),
  (1, ⟨(some 16), .lenL (.tmp 15), none⟩),
  (2, ⟨(some 17), .mv (.c (.t (.i .i64 0))), none⟩)]
abbrev f67r3 : Pc := .reg f67o3 [1, 2, 7, 8, 15, 16, 17] []
abbrev f67o4 : List (Nat × Pop) := [
  (0, ⟨(some 18), .bin .lss (.tmp 17) (.tmp 16), none⟩)]
abbrev f67r4 : Pc := .reg f67o4 [1, 2, 7, 8, 15, 16, 17, 18] []
abbrev f67o5 : List (Nat × Pop) := [
  (0, ⟨(some 19), .ixS 2 (.tmp 15) (.tmp 17), none⟩),
  (1, ⟨(some 20), .load true 2 (.tmp 19), none⟩),
  (2, ⟨(some 10), .alloc 116 [(.t (.i .i64 0)), (.t (.i .i64 0))], none⟩),
  (3, ⟨none, .store 2 (.tmp 10) (.tmp 20), none⟩)]
abbrev f67r5 : Pc := .reg f67o5 [1, 2, 7, 8, 10, 15, 16, 17] []
abbrev f67o6 : List (Nat × Pop) := [
  (0, ⟨(some 21), .build [(.t (.i .i64 0)), (.t (.i .i64 0))] [(0, 1, (.c (.t (.i .i64 (-1))))), (1, 1, (.c (.t (.i .i64 (-1)))))], none⟩),
  (1, ⟨(some 11), .alloc 116 [(.t (.i .i64 0)), (.t (.i .i64 0))], none⟩),
  (2, ⟨none, .store 2 (.tmp 11) (.tmp 21), none⟩)]
abbrev f67r6 : Pc := .reg f67o6 [1, 2, 7, 8, 10, 11, 15, 16, 17] []
abbrev f67o7 : List (Nat × Pop) := [
  (0, ⟨(some 22), .load true 2 (.tmp 10), none⟩),
  (1, ⟨(some 23), .mv (.c (.t (.i .i64 0))), none⟩)]
abbrev f67r7 : Pc := .reg f67o7 [1, 2, 7, 8, 11, 15, 16, 17, 22, 23] [10]
abbrev f67o8 : List (Nat × Pop) := [
  (0, ⟨(some 24), .bin .lss (.tmp 23) (.c (.t (.i .i64 2))), none⟩)]
abbrev f67r8 : Pc := .reg f67o8 [1, 2, 7, 8, 11, 15, 16, 17, 22, 23, 24] []
abbrev f67o9 : List (Nat × Pop) := [
  (0, ⟨(some 25), .mv (.tmp 23), none⟩),
  (1, ⟨(some 26), .ixV false 2 1 (.tmp 22) (.tmp 23), none⟩),
  (2, ⟨(some 12), .mv (.tmp 25), none⟩),
  (3, ⟨(some 13), .mv (.tmp 26), none⟩)]
abbrev f67r9 : Pc := .reg f67o9 [1, 2, 7, 8, 11, 12, 13, 15, 16, 17, 22, 23] []
abbrev f67o10 : List (Nat × Pop) := [
  (0, ⟨(some 27), .mv (.tmp 13), none⟩),
  (1, ⟨(some 28), .bin .lss (.tmp 27) (.c (.t (.i .i64 0))), none⟩),
  (2, ⟨(some 29), .mv (.tmp 28), none⟩),
  (3, ⟨(some 30), .mv (.tmp 13), (some (29, false))⟩),
  (4, ⟨(some 31), .mv (.tmp 1), (some (29, false))⟩),
  (5, ⟨(some 32), .bin .geq (.tmp 30) (.tmp 31), (some (29, false))⟩),
  (6, ⟨(some 33), .pick (.tmp 29) (.c (.t (.b true))) (.tmp 32), none⟩),
  (7, ⟨(some 34), .mv (.tmp 33), none⟩),
  (8, ⟨(some 35), .mv (.tmp 7), (some (34, false))⟩),
  (9, ⟨(some 36), .mv (.tmp 13), (some (34, false))⟩),
  (10, ⟨(some 37), .mlk (.t (.i .i64 0)) false (.tmp 35) (.tmp 36), (some (34, false))⟩),
  (11, ⟨(some 38), .mv (.tmp 2), (some (34, false))⟩),
  (12, ⟨(some 39), .bin .geq (.tmp 37) (.tmp 38), (some (34, false))⟩),
  (13, ⟨(some 40), .pick (.tmp 34) (.c (.t (.b true))) (.tmp 39), none⟩)]
abbrev f67r10 : Pc := .reg f67o10 [1, 2, 7, 8, 11, 12, 13, 15, 16, 17, 22, 23, 40] []
abbrev f67o11 : List (Nat × Pop) := [
  (0, ⟨(some 41), .mv (.tmp 12), none⟩),
  (1, ⟨(some 42), .mv (.tmp 7), none⟩),
  (2, ⟨(some 43), .mv (.tmp 13), none⟩),
  (3, ⟨(some 44), .mlk (.t (.i .i64 0)) false (.tmp 42) (.tmp 43), none⟩),
  (4, ⟨(some 45), .ixA 2 1 (.tmp 11) (.tmp 41), none⟩),
  (5, ⟨none, .store 1 (.tmp 45) (.tmp 44), none⟩)]
abbrev f67r11 : Pc := .reg f67o11 [1, 2, 7, 8, 11, 13, 15, 16, 17, 22, 23] []
abbrev f67o12 : List (Nat × Pop) := [
  (0, ⟨(some 46), .mv (.tmp 7), none⟩),
  (1, ⟨(some 47), .mv (.tmp 13), none⟩),
  (2, ⟨(some 48), .mlk (.t (.i .i64 0)) false (.tmp 46) (.tmp 47), none⟩),
  (3, ⟨(some 49), .bin .add (.tmp 48) (.c (.t (.i .i64 1))), none⟩),
  (4, ⟨none, .mup (.tmp 46) (.tmp 47) (.tmp 49), none⟩)]
abbrev f67r12 : Pc := .reg f67o12 [1, 2, 7, 8, 11, 15, 16, 17, 22, 23] []
abbrev f67o13 : List (Nat × Pop) := [
  (0, ⟨(some 50), .bin .add (.tmp 23) (.c (.t (.i .i64 1))), none⟩),
  (1, ⟨(some 23), .mv (.tmp 50), none⟩)]
abbrev f67r13 : Pc := .reg f67o13 [1, 2, 7, 8, 11, 15, 16, 17, 22, 23] []
def f67l0 : Pc := (.seq f67r8 (.seq (.cond (.tmp 24) .skip (.exit 2)) (.seq (.block 3 (.seq f67r9 (.seq (.seq f67r10 (.cond (.tmp 40) (.exit 3) .skip)) (.seq f67r11 f67r12)))) f67r13)))
theorem f67l0e (C : Cfg) (s : St) : evL C f67l0 s = evL C (.seq f67r8 (.seq (.cond (.tmp 24) .skip (.exit 2)) (.seq (.block 3 (.seq f67r9 (.seq (.seq f67r10 (.cond (.tmp 40) (.exit 3) .skip)) (.seq f67r11 f67r12)))) f67r13))) s := rfl
abbrev f67o14 : List (Nat × Pop) := [
  (0, ⟨(some 51), .mv (.tmp 8), none⟩),
  (1, ⟨(some 52), .load true 2 (.tmp 11), none⟩),
  (2, ⟨(some 53), .bslT 2 [(.tmp 52)], none⟩),
  (3, ⟨(some 54), .app 116 2 16 (.tmp 51) (.tmp 53), none⟩),
  (4, ⟨(some 8), .mv (.tmp 54), none⟩)]
abbrev f67r14 : Pc := .reg f67o14 [1, 2, 7, 8, 15, 16, 17] [11]
abbrev f67o15 : List (Nat × Pop) := [
  (0, ⟨(some 55), .bin .add (.tmp 17) (.c (.t (.i .i64 1))), none⟩),
  (1, ⟨(some 17), .mv (.tmp 55), none⟩)]
abbrev f67r15 : Pc := .reg f67o15 [1, 2, 7, 8, 15, 16, 17] []
def f67l1 : Pc := (.seq f67r4 (.seq (.cond (.tmp 18) .skip (.exit 0)) (.seq (.block 1 (.seq f67r5 (.seq f67r6 (.seq (.seq f67r7 (.block 2 (.loop f67l0))) f67r14)))) f67r15)))
theorem f67l1e (C : Cfg) (s : St) : evL C f67l1 s = evL C (.seq f67r4 (.seq (.cond (.tmp 18) .skip (.exit 0)) (.seq (.block 1 (.seq f67r5 (.seq f67r6 (.seq (.seq f67r7 (.block 2 (.loop f67l0))) f67r14)))) f67r15))) s := rfl
abbrev f67o16 : List (Nat × Pop) := [
  (0, ⟨(some 56), .mv (.tmp 8), none⟩),
  (1, ⟨(some 6), .mv (.tmp 56), none⟩)]
abbrev f67r16 : Pc := .reg f67o16 [6] [14]
abbrev f67b : Pc := (.seq f67r0 (.seq f67r1 (.seq f67r2 (.seq (.seq f67r3 (.block 0 (.loop f67l1))) (.seq f67r16 .ret)))))
abbrev f67 : Pfn := ⟨3, 57, [.tmp 6], f67b⟩
def f67K : Array (List Nat) := #[[0, 1, 2], [0, 1, 2, 7], [0, 1, 2, 7, 8], [1, 2, 7, 8, 15, 16, 17], [1, 2, 7, 8, 15, 16, 17, 18], [1, 2, 7, 8, 10, 15, 16, 17], [1, 2, 7, 8, 10, 11, 15, 16, 17], [1, 2, 7, 8, 11, 15, 16, 17, 22, 23], [1, 2, 7, 8, 11, 15, 16, 17, 22, 23, 24], [1, 2, 7, 8, 11, 12, 13, 15, 16, 17, 22, 23], [1, 2, 7, 8, 11, 12, 13, 15, 16, 17, 22, 23, 40], [1, 2, 7, 8, 11, 13, 15, 16, 17, 22, 23], [1, 2, 7, 8, 11, 15, 16, 17, 22, 23], [1, 2, 7, 8, 11, 15, 16, 17, 22, 23], [1, 2, 7, 8, 15, 16, 17], [1, 2, 7, 8, 15, 16, 17], [6]]
def f67H : Array (List Nat) := #[[6, 8, 54], [], [], [], [], [], [], [10], [], [], [], [], [], [], [11], [], [14]]
def f67A : Ann := ⟨fun r => f67K.getD r [], fun r => f67H.getD r [], fun r i => ([] : List (Nat × Nat)).contains (r, i)⟩
theorem f67C : compF Go.Proofs.Try.prog f67A 67 = some f67 := by kernel_rfl

/-- slices.Index[[]bool,bool] -/
abbrev f68o0 : List (Nat × Pop) := [
  (0, ⟨(some 4), .mv (.c (.t (.i .i64 0))), none⟩)]
abbrev f68r0 : Pc := .reg f68o0 [0, 1] []
abbrev f68o1 : List (Nat × Pop) := [
  (0, ⟨(some 6), .mv (.tmp 0), none⟩),
  (1, ⟨(some 7), .lenL (.tmp 6), none⟩),
  (2, ⟨(some 8), .mv (.c (.t (.i .i64 0))), none⟩)]
abbrev f68r1 : Pc := .reg f68o1 [0, 1, 7, 8] []
abbrev f68o2 : List (Nat × Pop) := [
  (0, ⟨(some 9), .bin .lss (.tmp 8) (.tmp 7), none⟩)]
abbrev f68r2 : Pc := .reg f68o2 [0, 1, 7, 8, 9] []
abbrev f68o3 : List (Nat × Pop) := [
  (0, ⟨(some 10), .mv (.tmp 8), none⟩),
  (1, ⟨(some 5), .mv (.tmp 10), none⟩)]
abbrev f68r3 : Pc := .reg f68o3 [0, 1, 5, 7, 8] []
abbrev f68o4 : List (Nat × Pop) := [
  (0, ⟨(some 11), .mv (.tmp 1), none⟩),
  (1, ⟨(some 12), .mv (.tmp 0), none⟩),
  (2, ⟨(some 13), .mv (.tmp 5), none⟩),
  (3, ⟨(some 14), .ixS 1 (.tmp 12) (.tmp 13), none⟩),
  (4, ⟨(some 15), .load false 1 (.tmp 14), none⟩),
  (5, ⟨(some 16), .beq false (.tmp 11) (.tmp 15), none⟩)]
abbrev f68r4 : Pc := .reg f68o4 [0, 1, 5, 7, 8, 16] []
abbrev f68o5 : List (Nat × Pop) := [
  (0, ⟨(some 17), .mv (.tmp 5), none⟩),
  (1, ⟨(some 4), .mv (.tmp 17), none⟩)]
abbrev f68r5 : Pc := .reg f68o5 [4] []
abbrev f68o6 : List (Nat × Pop) := [
  (0, ⟨(some 18), .bin .add (.tmp 8) (.c (.t (.i .i64 1))), none⟩),
  (1, ⟨(some 8), .mv (.tmp 18), none⟩)]
abbrev f68r6 : Pc := .reg f68o6 [0, 1, 7, 8] []
def f68l0 : Pc := (.seq f68r2 (.seq (.cond (.tmp 9) .skip (.exit 0)) (.seq (.block 1 (.seq f68r3 (.seq f68r4 (.cond (.tmp 16) (.seq f68r5 .ret) .skip)))) f68r6)))
theorem f68l0e (C : Cfg) (s : St) : evL C f68l0 s = evL C (.seq f68r2 (.seq (.cond (.tmp 9) .skip (.exit 0)) (.seq (.block 1 (.seq f68r3 (.seq f68r4 (.cond (.tmp 16) (.seq f68r5 .ret) .skip)))) f68r6))) s := rfl
abbrev f68o7 : List (Nat × Pop) := [
  (0, ⟨(some 4), .mv (.c (.t (.i .i64 (-1)))), none⟩)]
abbrev f68r7 : Pc := .reg f68o7 [4] []
abbrev f68b : Pc := (.seq f68r0 (.seq (.seq f68r1 (.block 0 (.loop f68l0))) (.seq f68r7 .ret)))
abbrev f68 : Pfn := ⟨2, 19, [.tmp 4], f68b⟩
def f68K : Array (List Nat) := #[[0, 1], [0, 1, 7, 8], [0, 1, 7, 8, 9], [0, 1, 5, 7, 8], [0, 1, 5, 7, 8, 16], [4], [0, 1, 7, 8], [4]]
def f68H : Array (List Nat) := #[[], [], [], [], [], [], [], []]
def f68A : Ann := ⟨fun r => f68K.getD r [], fun r => f68H.getD r [], fun r i => ([] : List (Nat × Nat)).contains (r, i)⟩
theorem f68C : compF Go.Proofs.Try.prog f68A 68 = some f68 := by kernel_rfl

/-- switchboard/vec.Add -/
abbrev f69o0 : List (Nat × Pop) := [
  (0, ⟨(some 3), .box 49 1 (.tmp 1), none⟩),
  (1, ⟨(some 4), .nilv 3 1, none⟩),
  (2, ⟨(some 5), .mv (.c (.t (.b false))), none⟩)]
abbrev f69r0 : Pc := .reg f69o0 [0, 3] [4]
abbrev f69o1 : List (Nat × Pop) := [
  (0, ⟨(some 6), .mv (.tmp 0), none⟩),
  (1, ⟨(some 7), .lenL (.tmp 6), none⟩),
  (2, ⟨(some 8), .load false 1 (.tmp 3), none⟩),
  (3, ⟨(some 9), .lenL (.tmp 8), none⟩),
  (4, ⟨(some 10), .bin .neq (.tmp 7) (.tmp 9), none⟩)]
abbrev f69r1 : Pc := .reg f69o1 [0, 3, 10] []
abbrev f69o2 : List (Nat × Pop) := [
  (0, ⟨(some 4), .nilv 3 1, none⟩),
  (1, ⟨(some 5), .mv (.c (.t (.b false))), none⟩)]
abbrev f69r2 : Pc := .reg f69o2 [4, 5] []
abbrev f69o3 : List (Nat × Pop) := [
  (0, ⟨(some 11), .mv (.tmp 0), none⟩),
  (1, ⟨(some 12), .mkfn 86 [(.tmp 3)], none⟩),
  (2, ⟨(some 13), .call 85 [(.tmp 11), (.tmp 12)], none⟩),
  (3, ⟨(some 4), .mv (.tmp 13), none⟩),
  (4, ⟨(some 5), .mv (.c (.t (.b true))), none⟩)]
abbrev f69r3 : Pc := .reg f69o3 [4, 5] []
abbrev f69b : Pc := (.seq f69r0 (.seq (.seq f69r1 (.cond (.tmp 10) (.seq f69r2 .ret) .skip)) (.seq f69r3 .ret)))
abbrev f69 : Pfn := ⟨2, 14, [.tmp 4, .tmp 5], f69b⟩
def f69K : Array (List Nat) := #[[0, 3], [0, 3, 10], [4, 5], [4, 5]]
def f69H : Array (List Nat) := #[[4], [], [], []]
def f69A : Ann := ⟨fun r => f69K.getD r [], fun r => f69H.getD r [], fun r i => ([] : List (Nat × Nat)).contains (r, i)⟩
theorem f69C : compF Go.Proofs.Try.prog f69A 69 = some f69 := by kernel_rfl

/-- switchboard/vec.Scale -/
abbrev f70o0 : List (Nat × Pop) := [
  (0, ⟨(some 3), .box 3 1 (.tmp 1), none⟩),
  (1, ⟨(some 4), .nilv 3 1, none⟩)]
abbrev f70r0 : Pc := .reg f70o0 [0, 3] [4]
abbrev f70o1 : List (Nat × Pop) := [
  (0, ⟨(some 5), .mv (.tmp 0), none⟩),
  (1, ⟨(some 6), .mkfn 88 [(.tmp 3)], none⟩),
  (2, ⟨(some 7), .call 85 [(.tmp 5), (.tmp 6)], none⟩),
  (3, ⟨(some 4), .mv (.tmp 7), none⟩)]
abbrev f70r1 : Pc := .reg f70o1 [4] []
abbrev f70b : Pc := (.seq f70r0 (.seq f70r1 .ret))
abbrev f70 : Pfn := ⟨2, 8, [.tmp 4], f70b⟩
def f70K : Array (List Nat) := #[[0, 3], [4]]
def f70H : Array (List Nat) := #[[4], []]
def f70A : Ann := ⟨fun r => f70K.getD r [], fun r => f70H.getD r [], fun r i => ([] : List (Nat × Nat)).contains (r, i)⟩
theorem f70C : compF Go.Proofs.Try.prog f70A 70 = some f70 := by kernel_rfl

/-- switchboard/wire.numbers -/
abbrev f71o0 : List (Nat × Pop) := [
  (0, ⟨(some 1), .box 71 11 (.tmp 0), none⟩),
  (1, ⟨(some 2), .nilv 3 1, none⟩)]
abbrev f71r0 : Pc := .reg f71o0 [1] [2, 23]
abbrev f71o1 : List (Nat × Pop) := [
  (0, ⟨(some 3), .fad 0 (.tmp 1), none⟩),
  (1, ⟨(some 4), .load false 1 (.tmp 3), none⟩),
  (2, ⟨(some 5), .fad 1 (.tmp 1), none⟩),
  (3, ⟨(some 6), .load false 1 (.tmp 5), none⟩),
  (4, ⟨(some 7), .fad 2 (.tmp 1), none⟩),
  (5, ⟨(some 8), .load false 1 (.tmp 7), none⟩),
  (6, ⟨(some 9), .fad 3 (.tmp 1), none⟩),
  (7, ⟨(some 10), .load false 1 (.tmp 9), none⟩),
  (8, ⟨(some 11), .fad 4 (.tmp 1), none⟩),
  (9, ⟨(some 12), .load false 1 (.tmp 11), none⟩),
  (10, ⟨(some 13), .fad 5 (.tmp 1), none⟩),
  (11, ⟨(some 14), .load false 1 (.tmp 13), none⟩),
  (12, ⟨(some 15), .fad 6 (.tmp 1), none⟩),
  (13, ⟨(some 16), .load false 1 (.tmp 15), none⟩),
  (14, ⟨(some 17), .fad 7 (.tmp 1), none⟩),
  (15, ⟨(some 18), .load false 1 (.tmp 17), none⟩),
  (16, ⟨(some 19), .fad 8 (.tmp 1), none⟩),
  (17, ⟨(some 20), .load false 1 (.tmp 19), none⟩),
  (18, ⟨(some 21), .fad 9 (.tmp 1), none⟩),
  (19, ⟨(some 22), .load false 1 (.tmp 21), none⟩),
  (20, ⟨(some 23), .bslO 3 1 [(.tmp 4), (.tmp 6), (.tmp 8), (.tmp 10), (.tmp 12), (.tmp 14), (.tmp 16), (.tmp 18), (.tmp 20), (.tmp 22)], none⟩),
  (21, ⟨(some 2), .mv (.tmp 23), none⟩)]
abbrev f71r1 : Pc := .reg f71o1 [2] [1]
abbrev f71b : Pc := (.seq f71r0 (.seq f71r1 .ret))
abbrev f71 : Pfn := ⟨1, 24, [.tmp 2], f71b⟩
def f71K : Array (List Nat) := #[[1], [2]]
def f71H : Array (List Nat) := #[[2, 23], [1]]
def f71A : Ann := ⟨fun r => f71K.getD r [], fun r => f71H.getD r [], fun r i => ([(1, 20), (1, 20)] : List (Nat × Nat)).contains (r, i)⟩
theorem f71C : compF Go.Proofs.Try.prog f71A 71 = some f71 := by kernel_rfl

/-- switchboard/wire.four -/
abbrev f72o0 : List (Nat × Pop) := [
  (0, ⟨(some 2), .mv (.c (.t (.s []))), none⟩)]
abbrev f72r0 : Pc := .reg f72o0 [0] []
abbrev f72o1 : List (Nat × Pop) := [
  (0, ⟨(some 3), .mv (.tmp 0), none⟩),
  (1, ⟨(some 4), .cvi .u8 (.tmp 3), none⟩),
  (2, ⟨(some 5), .mv (.tmp 0), none⟩),
  (3, ⟨(some 6), .bin .shr (.tmp 5) (.c (.t (.i .u64 8))), none⟩),
  (4, ⟨(some 7), .cvi .u8 (.tmp 6), none⟩),
  (5, ⟨(some 8), .mv (.tmp 0), none⟩),
  (6, ⟨(some 9), .bin .shr (.tmp 8) (.c (.t (.i .u64 16))), none⟩),
  (7, ⟨(some 10), .cvi .u8 (.tmp 9), none⟩),
  (8, ⟨(some 11), .mv (.tmp 0), none⟩),
  (9, ⟨(some 12), .bin .shr (.tmp 11) (.c (.t (.i .u64 24))), none⟩),
  (10, ⟨(some 13), .cvi .u8 (.tmp 12), none⟩),
  (11, ⟨(some 14), .bslT 1 [(.tmp 4), (.tmp 7), (.tmp 10), (.tmp 13)], none⟩),
  (12, ⟨(some 15), .cvbs (.tmp 14), none⟩),
  (13, ⟨(some 2), .mv (.tmp 15), none⟩)]
abbrev f72r1 : Pc := .reg f72o1 [2] []
abbrev f72b : Pc := (.seq f72r0 (.seq f72r1 .ret))
abbrev f72 : Pfn := ⟨1, 16, [.tmp 2], f72b⟩
def f72K : Array (List Nat) := #[[0], [2]]
def f72H : Array (List Nat) := #[[], []]
def f72A : Ann := ⟨fun r => f72K.getD r [], fun r => f72H.getD r [], fun r i => ([] : List (Nat × Nat)).contains (r, i)⟩
theorem f72C : compF Go.Proofs.Try.prog f72A 72 = some f72 := by kernel_rfl

/-- slices.Contains[[]int,int] -/
abbrev f73o0 : List (Nat × Pop) := [
  (0, ⟨(some 4), .mv (.c (.t (.b false))), none⟩)]
abbrev f73r0 : Pc := .reg f73o0 [0, 1] []
abbrev f73o1 : List (Nat × Pop) := [
  (0, ⟨(some 5), .mv (.tmp 0), none⟩),
  (1, ⟨(some 6), .mv (.tmp 1), none⟩),
  (2, ⟨(some 7), .call 90 [(.tmp 5), (.tmp 6)], none⟩),
  (3, ⟨(some 8), .bin .geq (.tmp 7) (.c (.t (.i .i64 0))), none⟩),
  (4, ⟨(some 4), .mv (.tmp 8), none⟩)]
abbrev f73r1 : Pc := .reg f73o1 [4] []
abbrev f73b : Pc := (.seq f73r0 (.seq f73r1 .ret))
abbrev f73 : Pfn := ⟨2, 9, [.tmp 4], f73b⟩
def f73K : Array (List Nat) := #[[0, 1], [4]]
def f73H : Array (List Nat) := #[[], []]
def f73A : Ann := ⟨fun r => f73K.getD r [], fun r => f73H.getD r [], fun r i => ([] : List (Nat × Nat)).contains (r, i)⟩
theorem f73C : compF Go.Proofs.Try.prog f73A 73 = some f73 := by kernel_rfl

/-- slices.IndexFunc[[]switchboard/ledger.Entry,switchboard/ledger.Entry] -/
abbrev f74o0 : List (Nat × Pop) := [
  (0, ⟨(some 4), .mv (.c (.t (.i .i64 0))), none⟩)]
abbrev f74r0 : Pc := .reg f74o0 [0, 1] []
abbrev f74o1 : List (Nat × Pop) := [
  (0, ⟨(some 6), .mv (.tmp 0), none⟩),
  (1, ⟨(some 7), .lenL (.tmp 6), none⟩),
  (2, ⟨(some 8), .mv (.c (.t (.i .i64 0))), none⟩)]
abbrev f74r1 : Pc := .reg f74o1 [0, 1, 7, 8] []
abbrev f74o2 : List (Nat × Pop) := [
  (0, ⟨(some 9), .bin .lss (.tmp 8) (.tmp 7), none⟩)]
abbrev f74r2 : Pc := .reg f74o2 [0, 1, 7, 8, 9] []
abbrev f74o3 : List (Nat × Pop) := [
  (0, ⟨(some 10), .mv (.tmp 8), none⟩),
  (1, ⟨(some 5), .mv (.tmp 10), none⟩)]
abbrev f74r3 : Pc := .reg f74o3 [0, 1, 5, 7, 8] []
abbrev f74o4 : List (Nat × Pop) := [
  (0, ⟨(some 11), .mv (.tmp 1), none⟩),
  (1, ⟨(some 12), .mv (.tmp 0), none⟩),
  (2, ⟨(some 13), .mv (.tmp 5), none⟩),
  (3, ⟨(some 14), .ixS 5 (.tmp 12) (.tmp 13), none⟩),
  (4, ⟨(some 15), .load true 5 (.tmp 14), none⟩),
  (5, ⟨(some 16), .callv (.tmp 11) [(.tmp 15)], none⟩)]
abbrev f74r4 : Pc := .reg f74o4 [0, 1, 5, 7, 8, 16] []
abbrev f74o5 : List (Nat × Pop) := [
  (0, ⟨(some 17), .mv (.tmp 5), none⟩),
  (1, ⟨(some 4), .mv (.tmp 17), none⟩)]
abbrev f74r5 : Pc := .reg f74o5 [4] []
abbrev f74o6 : List (Nat × Pop) := [
  (0, ⟨(some 18), .bin .add (.tmp 8) (.c (.t (.i .i64 1))), none⟩),
  (1, ⟨(some 8), .mv (.tmp 18), none⟩)]
abbrev f74r6 : Pc := .reg f74o6 [0, 1, 7, 8] []
def f74l0 : Pc := (.seq f74r2 (.seq (.cond (.tmp 9) .skip (.exit 0)) (.seq (.block 1 (.seq f74r3 (.seq f74r4 (.cond (.tmp 16) (.seq f74r5 .ret) .skip)))) f74r6)))
theorem f74l0e (C : Cfg) (s : St) : evL C f74l0 s = evL C (.seq f74r2 (.seq (.cond (.tmp 9) .skip (.exit 0)) (.seq (.block 1 (.seq f74r3 (.seq f74r4 (.cond (.tmp 16) (.seq f74r5 .ret) .skip)))) f74r6))) s := rfl
abbrev f74o7 : List (Nat × Pop) := [
  (0, ⟨(some 4), .mv (.c (.t (.i .i64 (-1)))), none⟩)]
abbrev f74r7 : Pc := .reg f74o7 [4] []
abbrev f74b : Pc := (.seq f74r0 (.seq (.seq f74r1 (.block 0 (.loop f74l0))) (.seq f74r7 .ret)))
abbrev f74 : Pfn := ⟨2, 19, [.tmp 4], f74b⟩
def f74K : Array (List Nat) := #[[0, 1], [0, 1, 7, 8], [0, 1, 7, 8, 9], [0, 1, 5, 7, 8], [0, 1, 5, 7, 8, 16], [4], [0, 1, 7, 8], [4]]
def f74H : Array (List Nat) := #[[], [], [], [], [], [], [], []]
def f74A : Ann := ⟨fun r => f74K.getD r [], fun r => f74H.getD r [], fun r i => ([] : List (Nat × Nat)).contains (r, i)⟩
theorem f74C : compF Go.Proofs.Try.prog f74A 74 = some f74 := by kernel_rfl

/-- switchboard/ledger.Find$1 -/
abbrev f75o0 : List (Nat × Pop) := [
  (0, ⟨(some 2), .box 129 5 (.tmp 0), none⟩),
  (1, ⟨(some 3), .mv (.c (.t (.b false))), none⟩)]
abbrev f75r0 : Pc := .reg f75o0 [1, 2] []
abbrev f75o1 : List (Nat × Pop) := [
  (0, ⟨(some 4), .fad 0 (.tmp 2), none⟩),
  (1, ⟨(some 5), .load true 4 (.tmp 4), none⟩),
  (2, ⟨(some 6), .load true 4 (.tmp 1), none⟩),
  (3, ⟨(some 7), .beqS [0, 0, 0, 0] false (.tmp 5) (.tmp 6), none⟩),
  (4, ⟨(some 3), .mv (.tmp 7), none⟩)]
abbrev f75r1 : Pc := .reg f75o1 [3] [2]
abbrev f75b : Pc := (.seq f75r0 (.seq f75r1 .ret))
abbrev f75 : Pfn := ⟨2, 8, [.tmp 3], f75b⟩
def f75K : Array (List Nat) := #[[1, 2], [3]]
def f75H : Array (List Nat) := #[[], [2]]
def f75A : Ann := ⟨fun r => f75K.getD r [], fun r => f75H.getD r [], fun r i => ([] : List (Nat × Nat)).contains (r, i)⟩
theorem f75C : compF Go.Proofs.Try.prog f75A 75 = some f75 := by kernel_rfl

/-- slices.Clone[[]int,int] -/
abbrev f76o0 : List (Nat × Pop) := [
  (0, ⟨(some 2), .nilv 3 1, none⟩)]
abbrev f76r0 : Pc := .reg f76o0 [0] [2, 5, 7]
abbrev f76o1 : List (Nat × Pop) := [
  (0, ⟨(some 3), .mv (.tmp 0), none⟩),
  (1, ⟨(some 4), .isnilS false (.tmp 3), none⟩)]
abbrev f76r1 : Pc := .reg f76o1 [0, 4] []
abbrev f76o2 : List (Nat × Pop) := [
  (0, ⟨(some 2), .nilv 3 1, none⟩)]
abbrev f76r2 : Pc := .reg f76o2 [2] []
abbrev f76o3 : List (Nat × Pop) := [
  (0, ⟨(some 5), .bslO 3 1 [], none⟩),
  (1, ⟨(some 6), .mv (.tmp 0), none⟩),
  (2, ⟨(some 7), .app 3 1 8 (.tmp 5) (.tmp 6), none⟩),
  (3, ⟨(some 2), .mv (.tmp 7), none⟩)]
abbrev f76r3 : Pc := .reg f76o3 [2] []
abbrev f76b : Pc := (.seq f76r0 (.seq (.seq f76r1 (.cond (.tmp 4) (.seq f76r2 .ret) .skip)) (.seq f76r3 .ret)))
abbrev f76 : Pfn := ⟨1, 8, [.tmp 2], f76b⟩
def f76K : Array (List Nat) := #[[0], [0, 4], [2], [2]]
def f76H : Array (List Nat) := #[[2, 5, 7], [], [], []]
def f76A : Ann := ⟨fun r => f76K.getD r [], fun r => f76H.getD r [], fun r i => ([(3, 0), (3, 0)] : List (Nat × Nat)).contains (r, i)⟩
theorem f76C : compF Go.Proofs.Try.prog f76A 76 = some f76 := by kernel_rfl

/-- switchboard/mat.Apply -/
abbrev f77o0 : List (Nat × Pop) := [
  (0, ⟨(some 4), .nilv 3 1, none⟩),
  (1, ⟨(some 5), .mv (.c (.t (.b false))), none⟩)]
abbrev f77r0 : Pc := .reg f77o0 [0, 1] [4, 6, 28]
abbrev f77o1 : List (Nat × Pop) := [
  (0, ⟨(some 6), .nilv 3 1, none⟩)]
abbrev f77r1 : Pc := .reg f77o1 [0, 1, 6] []
abbrev f77o2 : List (Nat × Pop) := [
  (0, ⟨(some 11), .mv (.tmp 0), none⟩),
  (1, ⟨(some 12), .lenL (.tmp 11), none⟩),
  (2, ⟨(some 13), .mv (.c (.t (.i .i64 0))), none⟩)]
abbrev f77r2 : Pc := .reg f77o2 [1, 6, 11, 12, 13] []
abbrev f77o3 : List (Nat × Pop) := [
  (0, ⟨(some 14), .bin .lss (.tmp 13) (.tmp 12), none⟩)]
abbrev f77r3 : Pc := .reg f77o3 [1, 6, 11, 12, 13, 14] []
abbrev f77o4 : List (Nat × Pop) := [
  (0, ⟨(some 15), .ixS 1 (.tmp 11) (.tmp 13), none⟩),
  (1, ⟨(some 16), .load false 1 (.tmp 15), none⟩),
  (2, ⟨(some 8), .mv (.tmp 16), none⟩)]
abbrev f77r4 : Pc := .reg f77o4 [1, 6, 8, 11, 12, 13] []
abbrev f77o5 : List (Nat × Pop) := [
  (0, ⟨(some 18), .mv (.tmp 8), none⟩),
  (1, ⟨(some 19), .mv (.tmp 1), none⟩),
  (2, ⟨(some 20), .call 91 [(.tmp 18), (.tmp 19)], none⟩),
  (3, ⟨(some 17), .mv (.tmp 20), none⟩),
  (4, ⟨(some 21), .ext 0 (.tmp 17), none⟩),
  (5, ⟨(some 22), .ext 1 (.tmp 17), none⟩),
  (6, ⟨(some 9), .mv (.tmp 21), none⟩),
  (7, ⟨(some 10), .mv (.tmp 22), none⟩)]
abbrev f77r5 : Pc := .reg f77o5 [1, 6, 9, 10, 11, 12, 13] []
abbrev f77o6 : List (Nat × Pop) := [
  (0, ⟨(some 23), .mv (.tmp 10), none⟩),
  (1, ⟨(some 24), .un .not (.tmp 23), none⟩)]
abbrev f77r6 : Pc := .reg f77o6 [1, 6, 9, 11, 12, 13, 24] []
abbrev f77o7 : List (Nat × Pop) := [
  (0, ⟨(some 4), .nilv 3 1, none⟩),
  (1, ⟨(some 5), .mv (.c (.t (.b false))), none⟩)]
abbrev f77r7 : Pc := .reg f77o7 [4, 5] []
abbrev f77o8 : List (Nat × Pop) := [
  (0, ⟨(some 25), .mv (.tmp 6), none⟩),
  (1, ⟨(some 26), .mv (.tmp 9), none⟩),
  (2, ⟨(some 27), .bslT 1 [(.tmp 26)], none⟩),
  (3, ⟨(some 28), .app 3 1 8 (.tmp 25) (.tmp 27), none⟩),
  (4, ⟨(some 6), .mv (.tmp 28), none⟩)]
abbrev f77r8 : Pc := .reg f77o8 [1, 6, 11, 12, 13] []
abbrev f77o9 : List (Nat × Pop) := [
  (0, ⟨(some 29), .bin .add (.tmp 13) (.c (.t (.i .i64 1))), none⟩),
  (1, ⟨(some 13), .mv (.tmp 29), none⟩)]
abbrev f77r9 : Pc := .reg f77o9 [1, 6, 11, 12, 13] []
def f77l0 : Pc := (.seq f77r3 (.seq (.cond (.tmp 14) .skip (.exit 0)) (.seq (.block 1 (.seq f77r4 (.seq f77r5 (.seq (.seq f77r6 (.cond (.tmp 24) (.seq f77r7 .ret) .skip)) f77r8)))) f77r9)))
theorem f77l0e (C : Cfg) (s : St) : evL C f77l0 s = evL C (.seq f77r3 (.seq (.cond (.tmp 14) .skip (.exit 0)) (.seq (.block 1 (.seq f77r4 (.seq f77r5 (.seq (.seq f77r6 (.cond (.tmp 24) (.seq f77r7 .ret) .skip)) f77r8)))) f77r9))) s := rfl
abbrev f77o10 : List (Nat × Pop) := [
  (0, ⟨(some 30), .mv (.tmp 6), none⟩),
  (1, ⟨(some 4), .mv (.tmp 30), none⟩),
  (2, ⟨(some 5), .mv (.c (.t (.b true))), none⟩)]
abbrev f77r10 : Pc := .reg f77o10 [4, 5] []
abbrev f77b : Pc := (.seq f77r0 (.seq f77r1 (.seq (.seq f77r2 (.block 0 (.loop f77l0))) (.seq f77r10 .ret))))
abbrev f77 : Pfn := ⟨2, 31, [.tmp 4, .tmp 5], f77b⟩
def f77K : Array (List Nat) := #[[0, 1], [0, 1, 6], [1, 6, 11, 12, 13], [1, 6, 11, 12, 13, 14], [1, 6, 8, 11, 12, 13], [1, 6, 9, 10, 11, 12, 13], [1, 6, 9, 11, 12, 13, 24], [4, 5], [1, 6, 11, 12, 13], [1, 6, 11, 12, 13], [4, 5]]
def f77H : Array (List Nat) := #[[4, 6, 28], [], [], [], [], [], [], [], [], [], []]
def f77A : Ann := ⟨fun r => f77K.getD r [], fun r => f77H.getD r [], fun r i => ([] : List (Nat × Nat)).contains (r, i)⟩
theorem f77C : compF Go.Proofs.Try.prog f77A 77 = some f77 := by kernel_rfl

/-- switchboard/vec.Relu -/
abbrev f78o0 : List (Nat × Pop) := [
  (0, ⟨(some 2), .nilv 3 1, none⟩)]
abbrev f78r0 : Pc := .reg f78o0 [0] [2]
abbrev f78o1 : List (Nat × Pop) := [
  (0, ⟨(some 3), .mv (.tmp 0), none⟩),
  (1, ⟨(some 4), .call 85 [(.tmp 3), (.c (.fn 92 []))], none⟩),
  (2, ⟨(some 2), .mv (.tmp 4), none⟩)]
abbrev f78r1 : Pc := .reg f78o1 [2] []
abbrev f78b : Pc := (.seq f78r0 (.seq f78r1 .ret))
abbrev f78 : Pfn := ⟨1, 5, [.tmp 2], f78b⟩
def f78K : Array (List Nat) := #[[0], [2]]
def f78H : Array (List Nat) := #[[2], []]
def f78A : Ann := ⟨fun r => f78K.getD r [], fun r => f78H.getD r [], fun r i => ([] : List (Nat × Nat)).contains (r, i)⟩
theorem f78C : compF Go.Proofs.Try.prog f78A 78 = some f78 := by kernel_rfl

/-- slices.Clone[[]switchboard/ledger.Entry,switchboard/ledger.Entry] -/
abbrev f79o0 : List (Nat × Pop) := [
  (0, ⟨(some 2), .nilv 129 5, none⟩)]
abbrev f79r0 : Pc := .reg f79o0 [0] [2, 5, 7]
abbrev f79o1 : List (Nat × Pop) := [
  (0, ⟨(some 3), .mv (.tmp 0), none⟩),
  (1, ⟨(some 4), .isnilS false (.tmp 3), none⟩)]
abbrev f79r1 : Pc := .reg f79o1 [0, 4] []
abbrev f79o2 : List (Nat × Pop) := [
  (0, ⟨(some 2), .nilv 129 5, none⟩)]
abbrev f79r2 : Pc := .reg f79o2 [2] []
abbrev f79o3 : List (Nat × Pop) := [
  (0, ⟨(some 5), .bslO 129 5 [], none⟩),
  (1, ⟨(some 6), .mv (.tmp 0), none⟩),
  (2, ⟨(some 7), .app 129 5 56 (.tmp 5) (.tmp 6), none⟩),
  (3, ⟨(some 2), .mv (.tmp 7), none⟩)]
abbrev f79r3 : Pc := .reg f79o3 [2] []
abbrev f79b : Pc := (.seq f79r0 (.seq (.seq f79r1 (.cond (.tmp 4) (.seq f79r2 .ret) .skip)) (.seq f79r3 .ret)))
abbrev f79 : Pfn := ⟨1, 8, [.tmp 2], f79b⟩
def f79K : Array (List Nat) := #[[0], [0, 4], [2], [2]]
def f79H : Array (List Nat) := #[[2, 5, 7], [], [], []]
def f79A : Ann := ⟨fun r => f79K.getD r [], fun r => f79H.getD r [], fun r i => ([(3, 0), (3, 0)] : List (Nat × Nat)).contains (r, i)⟩
theorem f79C : compF Go.Proofs.Try.prog f79A 79 = some f79 := by kernel_rfl

/-- switchboard/mat.Right$1 -/
abbrev f80o0 : List (Nat × Pop) := [
  (0, ⟨(some 3), .mv (.c (.t (.b false))), none⟩)]
abbrev f80r0 : Pc := .reg f80o0 [0, 1] []
abbrev f80o1 : List (Nat × Pop) := [
  (0, ⟨(some 4), .mv (.tmp 0), none⟩),
  (1, ⟨(some 5), .lenL (.tmp 4), none⟩),
  (2, ⟨(some 6), .load false 1 (.tmp 1), none⟩),
  (3, ⟨(some 7), .bin .neq (.tmp 5) (.tmp 6), none⟩),
  (4, ⟨(some 8), .mv (.tmp 7), none⟩),
  (5, ⟨(some 9), .mv (.tmp 0), (some (8, false))⟩),
  (6, ⟨(some 10), .call 39 [(.tmp 9), (.c (.fn 81 []))], (some (8, false))⟩),
  (7, ⟨(some 11), .pick (.tmp 8) (.c (.t (.b true))) (.tmp 10), none⟩),
  (8, ⟨(some 3), .mv (.tmp 11), none⟩)]
abbrev f80r1 : Pc := .reg f80o1 [3] []
abbrev f80b : Pc := (.seq f80r0 (.seq f80r1 .ret))
abbrev f80 : Pfn := ⟨2, 12, [.tmp 3], f80b⟩
def f80K : Array (List Nat) := #[[0, 1], [3]]
def f80H : Array (List Nat) := #[[], []]
def f80A : Ann := ⟨fun r => f80K.getD r [], fun r => f80H.getD r [], fun r i => ([] : List (Nat × Nat)).contains (r, i)⟩
theorem f80C : compF Go.Proofs.Try.prog f80A 80 = some f80 := by kernel_rfl

/-- switchboard/mat.Right$1$1 -/
abbrev f81o0 : List (Nat × Pop) := [
  (0, ⟨(some 2), .mv (.c (.t (.b false))), none⟩)]
abbrev f81r0 : Pc := .reg f81o0 [0] []
abbrev f81o1 : List (Nat × Pop) := [
  (0, ⟨(some 3), .mv (.tmp 0), none⟩),
  (1, ⟨(some 4), .call 41 [(.tmp 3)], none⟩),
  (2, ⟨(some 5), .mv (.tmp 0), none⟩),
  (3, ⟨(some 6), .bin .neq (.tmp 4) (.tmp 5), none⟩),
  (4, ⟨(some 2), .mv (.tmp 6), none⟩)]
abbrev f81r1 : Pc := .reg f81o1 [2] []
abbrev f81b : Pc := (.seq f81r0 (.seq f81r1 .ret))
abbrev f81 : Pfn := ⟨1, 7, [.tmp 2], f81b⟩
def f81K : Array (List Nat) := #[[0], [2]]
def f81H : Array (List Nat) := #[[], []]
def f81A : Ann := ⟨fun r => f81K.getD r [], fun r => f81H.getD r [], fun r i => ([] : List (Nat × Nat)).contains (r, i)⟩
theorem f81C : compF Go.Proofs.Try.prog f81A 81 = some f81 := by kernel_rfl

/-- slices.IndexFunc[[]switchboard/api.Expert,switchboard/api.Expert] -/
abbrev f82o0 : List (Nat × Pop) := [
  (0, ⟨(some 4), .mv (.c (.t (.i .i64 0))), none⟩)]
abbrev f82r0 : Pc := .reg f82o0 [0, 1] []
abbrev f82o1 : List (Nat × Pop) := [
  (0, ⟨(some 6), .mv (.tmp 0), none⟩),
  (1, ⟨(some 7), .lenL (.tmp 6), none⟩),
  (2, ⟨(some 8), .mv (.c (.t (.i .i64 0))), none⟩)]
abbrev f82r1 : Pc := .reg f82o1 [0, 1, 7, 8] []
abbrev f82o2 : List (Nat × Pop) := [
  (0, ⟨(some 9), .bin .lss (.tmp 8) (.tmp 7), none⟩)]
abbrev f82r2 : Pc := .reg f82o2 [0, 1, 7, 8, 9] []
abbrev f82o3 : List (Nat × Pop) := [
  (0, ⟨(some 10), .mv (.tmp 8), none⟩),
  (1, ⟨(some 5), .mv (.tmp 10), none⟩)]
abbrev f82r3 : Pc := .reg f82o3 [0, 1, 5, 7, 8] []
abbrev f82o4 : List (Nat × Pop) := [
  (0, ⟨(some 11), .mv (.tmp 1), none⟩),
  (1, ⟨(some 12), .mv (.tmp 0), none⟩),
  (2, ⟨(some 13), .mv (.tmp 5), none⟩),
  (3, ⟨(some 14), .ixS 2 (.tmp 12) (.tmp 13), none⟩),
  (4, ⟨(some 15), .load true 2 (.tmp 14), none⟩),
  (5, ⟨(some 16), .callv (.tmp 11) [(.tmp 15)], none⟩)]
abbrev f82r4 : Pc := .reg f82o4 [0, 1, 5, 7, 8, 16] []
abbrev f82o5 : List (Nat × Pop) := [
  (0, ⟨(some 17), .mv (.tmp 5), none⟩),
  (1, ⟨(some 4), .mv (.tmp 17), none⟩)]
abbrev f82r5 : Pc := .reg f82o5 [4] []
abbrev f82o6 : List (Nat × Pop) := [
  (0, ⟨(some 18), .bin .add (.tmp 8) (.c (.t (.i .i64 1))), none⟩),
  (1, ⟨(some 8), .mv (.tmp 18), none⟩)]
abbrev f82r6 : Pc := .reg f82o6 [0, 1, 7, 8] []
def f82l0 : Pc := (.seq f82r2 (.seq (.cond (.tmp 9) .skip (.exit 0)) (.seq (.block 1 (.seq f82r3 (.seq f82r4 (.cond (.tmp 16) (.seq f82r5 .ret) .skip)))) f82r6)))
theorem f82l0e (C : Cfg) (s : St) : evL C f82l0 s = evL C (.seq f82r2 (.seq (.cond (.tmp 9) .skip (.exit 0)) (.seq (.block 1 (.seq f82r3 (.seq f82r4 (.cond (.tmp 16) (.seq f82r5 .ret) .skip)))) f82r6))) s := rfl
abbrev f82o7 : List (Nat × Pop) := [
  (0, ⟨(some 4), .mv (.c (.t (.i .i64 (-1)))), none⟩)]
abbrev f82r7 : Pc := .reg f82o7 [4] []
abbrev f82b : Pc := (.seq f82r0 (.seq (.seq f82r1 (.block 0 (.loop f82l0))) (.seq f82r7 .ret)))
abbrev f82 : Pfn := ⟨2, 19, [.tmp 4], f82b⟩
def f82K : Array (List Nat) := #[[0, 1], [0, 1, 7, 8], [0, 1, 7, 8, 9], [0, 1, 5, 7, 8], [0, 1, 5, 7, 8, 16], [4], [0, 1, 7, 8], [4]]
def f82H : Array (List Nat) := #[[], [], [], [], [], [], [], []]
def f82A : Ann := ⟨fun r => f82K.getD r [], fun r => f82H.getD r [], fun r i => ([] : List (Nat × Nat)).contains (r, i)⟩
theorem f82C : compF Go.Proofs.Try.prog f82A 82 = some f82 := by kernel_rfl

/-- switchboard/top.Two -/
abbrev f83o0 : List (Nat × Pop) := [
  (0, ⟨(some 2), .mv (.c (.t (.i .i64 0))), none⟩),
  (1, ⟨(some 3), .mv (.c (.t (.i .i64 0))), none⟩)]
abbrev f83r0 : Pc := .reg f83o0 [0] []
abbrev f83o1 : List (Nat × Pop) := [
  (0, ⟨(some 5), .mv (.tmp 0), none⟩),
  (1, ⟨(some 6), .call 93 [(.tmp 5)], none⟩),
  (2, ⟨(some 4), .mv (.tmp 6), none⟩)]
abbrev f83r1 : Pc := .reg f83o1 [0, 4] []
abbrev f83o2 : List (Nat × Pop) := [
  (0, ⟨(some 7), .mv (.tmp 4), none⟩),
  (1, ⟨(some 8), .mv (.tmp 0), none⟩),
  (2, ⟨(some 9), .mv (.tmp 4), none⟩),
  (3, ⟨(some 10), .call 94 [(.tmp 8), (.tmp 9)], none⟩),
  (4, ⟨(some 2), .mv (.tmp 7), none⟩),
  (5, ⟨(some 3), .mv (.tmp 10), none⟩)]
abbrev f83r2 : Pc := .reg f83o2 [2, 3] []
abbrev f83b : Pc := (.seq f83r0 (.seq f83r1 (.seq f83r2 .ret)))
abbrev f83 : Pfn := ⟨1, 11, [.tmp 2, .tmp 3], f83b⟩
def f83K : Array (List Nat) := #[[0], [0, 4], [2, 3]]
def f83H : Array (List Nat) := #[[], [], []]
def f83A : Ann := ⟨fun r => f83K.getD r [], fun r => f83H.getD r [], fun r i => ([] : List (Nat × Nat)).contains (r, i)⟩
theorem f83C : compF Go.Proofs.Try.prog f83A 83 = some f83 := by kernel_rfl

/-- switchboard/share.Shares -/
abbrev f84o0 : List (Nat × Pop) := [
  (0, ⟨(some 4), .mv (.c (.t (.i .i64 0))), none⟩),
  (1, ⟨(some 5), .mv (.c (.t (.i .i64 0))), none⟩)]
abbrev f84r0 : Pc := .reg f84o0 [0, 1] []
abbrev f84o1 : List (Nat × Pop) := [
  (0, ⟨(some 9), .mv (.tmp 0), none⟩),
  (1, ⟨(some 10), .call 41 [(.tmp 9)], none⟩),
  (2, ⟨(some 11), .mm true [(.tmp 10), (.c (.t (.i .i64 0)))], none⟩),
  (3, ⟨(some 12), .bin .add (.tmp 11) (.c (.t (.i .i64 1))), none⟩),
  (4, ⟨(some 13), .mv (.tmp 1), none⟩),
  (5, ⟨(some 14), .call 41 [(.tmp 13)], none⟩),
  (6, ⟨(some 15), .mm true [(.tmp 14), (.c (.t (.i .i64 0)))], none⟩),
  (7, ⟨(some 16), .bin .add (.tmp 15) (.c (.t (.i .i64 1))), none⟩),
  (8, ⟨(some 6), .mv (.tmp 12), none⟩),
  (9, ⟨(some 7), .mv (.tmp 16), none⟩)]
abbrev f84r1 : Pc := .reg f84o1 [6, 7] []
abbrev f84o2 : List (Nat × Pop) := [
  (0, ⟨(some 17), .mv (.tmp 6), none⟩),
  (1, ⟨(some 18), .bin .mul (.tmp 17) (.c (.t (.i .i64 65536))), none⟩),
  (2, ⟨(some 19), .mv (.tmp 6), none⟩),
  (3, ⟨(some 20), .mv (.tmp 7), none⟩),
  (4, ⟨(some 21), .bin .add (.tmp 19) (.tmp 20), none⟩),
  (5, ⟨(some 22), .bin .quo (.tmp 18) (.tmp 21), none⟩),
  (6, ⟨(some 8), .mv (.tmp 22), none⟩)]
abbrev f84r2 : Pc := .reg f84o2 [8] []
abbrev f84o3 : List (Nat × Pop) := [
  (0, ⟨(some 23), .mv (.tmp 8), none⟩),
  (1, ⟨(some 24), .mv (.tmp 8), none⟩),
  (2, ⟨(some 25), .bin .sub (.c (.t (.i .i64 65536))) (.tmp 24), none⟩),
  (3, ⟨(some 4), .mv (.tmp 23), none⟩),
  (4, ⟨(some 5), .mv (.tmp 25), none⟩)]
abbrev f84r3 : Pc := .reg f84o3 [4, 5] []
abbrev f84b : Pc := (.seq f84r0 (.seq f84r1 (.seq f84r2 (.seq f84r3 .ret))))
abbrev f84 : Pfn := ⟨2, 26, [.tmp 4, .tmp 5], f84b⟩
def f84K : Array (List Nat) := #[[0, 1], [6, 7], [8], [4, 5]]
def f84H : Array (List Nat) := #[[], [], [], []]
def f84A : Ann := ⟨fun r => f84K.getD r [], fun r => f84H.getD r [], fun r i => ([] : List (Nat × Nat)).contains (r, i)⟩
theorem f84C : compF Go.Proofs.Try.prog f84A 84 = some f84 := by kernel_rfl

/-- switchboard/vec.each -/
abbrev f85o0 : List (Nat × Pop) := [
  (0, ⟨(some 4), .nilv 3 1, none⟩)]
abbrev f85r0 : Pc := .reg f85o0 [0, 1] [4, 5, 21]
abbrev f85o1 : List (Nat × Pop) := [
  (0, ⟨(some 5), .nilv 3 1, none⟩)]
abbrev f85r1 : Pc := .reg f85o1 [0, 1, 5] []
abbrev f85o2 : List (Nat × Pop) := [
  (0, ⟨(some 8), .mv (.tmp 0), none⟩),
  (1, ⟨(some 9), .lenL (.tmp 8), none⟩),
  (2, ⟨(some 10), .mv (.c (.t (.i .i64 0))), none⟩)]
abbrev f85r2 : Pc := .reg f85o2 [1, 5, 8, 9, 10] []
abbrev f85o3 : List (Nat × Pop) := [
  (0, ⟨(some 11), .bin .lss (.tmp 10) (.tmp 9), none⟩)]
abbrev f85r3 : Pc := .reg f85o3 [1, 5, 8, 9, 10, 11] []
abbrev f85o4 : List (Nat × Pop) := [
  (0, ⟨(some 12), .mv (.tmp 10), none⟩),
  (1, ⟨(some 13), .ixS 1 (.tmp 8) (.tmp 10), none⟩),
  (2, ⟨(some 14), .load false 1 (.tmp 13), none⟩),
  (3, ⟨(some 6), .mv (.tmp 12), none⟩),
  (4, ⟨(some 7), .mv (.tmp 14), none⟩)]
abbrev f85r4 : Pc := .reg f85o4 [1, 5, 6, 7, 8, 9, 10] []
abbrev f85o5 : List (Nat × Pop) := [
  (0, ⟨(some 15), .mv (.tmp 5), none⟩),
  (1, ⟨(some 16), .mv (.tmp 1), none⟩),
  (2, ⟨(some 17), .mv (.tmp 6), none⟩),
  (3, ⟨(some 18), .mv (.tmp 7), none⟩),
  (4, ⟨(some 19), .callv (.tmp 16) [(.tmp 17), (.tmp 18)], none⟩),
  (5, ⟨(some 20), .bslT 1 [(.tmp 19)], none⟩),
  (6, ⟨(some 21), .app 3 1 8 (.tmp 15) (.tmp 20), none⟩),
  (7, ⟨(some 5), .mv (.tmp 21), none⟩)]
abbrev f85r5 : Pc := .reg f85o5 [1, 5, 8, 9, 10] []
abbrev f85o6 : List (Nat × Pop) := [
  (0, ⟨(some 22), .bin .add (.tmp 10) (.c (.t (.i .i64 1))), none⟩),
  (1, ⟨(some 10), .mv (.tmp 22), none⟩)]
abbrev f85r6 : Pc := .reg f85o6 [1, 5, 8, 9, 10] []
def f85l0 : Pc := (.seq f85r3 (.seq (.cond (.tmp 11) .skip (.exit 0)) (.seq (.block 1 (.seq f85r4 f85r5)) f85r6)))
theorem f85l0e (C : Cfg) (s : St) : evL C f85l0 s = evL C (.seq f85r3 (.seq (.cond (.tmp 11) .skip (.exit 0)) (.seq (.block 1 (.seq f85r4 f85r5)) f85r6))) s := rfl
abbrev f85o7 : List (Nat × Pop) := [
  (0, ⟨(some 23), .mv (.tmp 5), none⟩),
  (1, ⟨(some 4), .mv (.tmp 23), none⟩)]
abbrev f85r7 : Pc := .reg f85o7 [4] []
abbrev f85b : Pc := (.seq f85r0 (.seq f85r1 (.seq (.seq f85r2 (.block 0 (.loop f85l0))) (.seq f85r7 .ret))))
abbrev f85 : Pfn := ⟨2, 24, [.tmp 4], f85b⟩
def f85K : Array (List Nat) := #[[0, 1], [0, 1, 5], [1, 5, 8, 9, 10], [1, 5, 8, 9, 10, 11], [1, 5, 6, 7, 8, 9, 10], [1, 5, 8, 9, 10], [1, 5, 8, 9, 10], [4]]
def f85H : Array (List Nat) := #[[4, 5, 21], [], [], [], [], [], [], []]
def f85A : Ann := ⟨fun r => f85K.getD r [], fun r => f85H.getD r [], fun r i => ([] : List (Nat × Nat)).contains (r, i)⟩
theorem f85C : compF Go.Proofs.Try.prog f85A 85 = some f85 := by kernel_rfl

/-- switchboard/vec.Add$1 -/
abbrev f86o0 : List (Nat × Pop) := [
  (0, ⟨(some 5), .mv (.c (.t (.i .i64 0))), none⟩)]
abbrev f86r0 : Pc := .reg f86o0 [0, 1, 2] []
abbrev f86o1 : List (Nat × Pop) := [
  (0, ⟨(some 6), .mv (.tmp 1), none⟩),
  (1, ⟨(some 7), .load false 1 (.tmp 2), none⟩),
  (2, ⟨(some 8), .mv (.tmp 0), none⟩),
  (3, ⟨(some 9), .ixS 1 (.tmp 7) (.tmp 8), none⟩),
  (4, ⟨(some 10), .load false 1 (.tmp 9), none⟩),
  (5, ⟨(some 11), .call 87 [(.tmp 6), (.tmp 10)], none⟩),
  (6, ⟨(some 5), .mv (.tmp 11), none⟩)]
abbrev f86r1 : Pc := .reg f86o1 [5] []
abbrev f86b : Pc := (.seq f86r0 (.seq f86r1 .ret))
abbrev f86 : Pfn := ⟨3, 12, [.tmp 5], f86b⟩
def f86K : Array (List Nat) := #[[0, 1, 2], [5]]
def f86H : Array (List Nat) := #[[], []]
def f86A : Ann := ⟨fun r => f86K.getD r [], fun r => f86H.getD r [], fun r i => ([] : List (Nat × Nat)).contains (r, i)⟩
theorem f86C : compF Go.Proofs.Try.prog f86A 86 = some f86 := by kernel_rfl

/-- switchboard/fix.Add -/
abbrev f87o0 : List (Nat × Pop) := [
  (0, ⟨(some 4), .mv (.c (.t (.i .i64 0))), none⟩)]
abbrev f87r0 : Pc := .reg f87o0 [0, 1] []
abbrev f87o1 : List (Nat × Pop) := [
  (0, ⟨(some 5), .mv (.tmp 0), none⟩),
  (1, ⟨(some 6), .call 41 [(.tmp 5)], none⟩),
  (2, ⟨(some 7), .mv (.tmp 1), none⟩),
  (3, ⟨(some 8), .call 41 [(.tmp 7)], none⟩),
  (4, ⟨(some 9), .bin .add (.tmp 6) (.tmp 8), none⟩),
  (5, ⟨(some 10), .call 41 [(.tmp 9)], none⟩),
  (6, ⟨(some 4), .mv (.tmp 10), none⟩)]
abbrev f87r1 : Pc := .reg f87o1 [4] []
abbrev f87b : Pc := (.seq f87r0 (.seq f87r1 .ret))
abbrev f87 : Pfn := ⟨2, 11, [.tmp 4], f87b⟩
def f87K : Array (List Nat) := #[[0, 1], [4]]
def f87H : Array (List Nat) := #[[], []]
def f87A : Ann := ⟨fun r => f87K.getD r [], fun r => f87H.getD r [], fun r i => ([] : List (Nat × Nat)).contains (r, i)⟩
theorem f87C : compF Go.Proofs.Try.prog f87A 87 = some f87 := by kernel_rfl

/-- switchboard/vec.Scale$1 -/
abbrev f88o0 : List (Nat × Pop) := [
  (0, ⟨(some 5), .mv (.c (.t (.i .i64 0))), none⟩)]
abbrev f88r0 : Pc := .reg f88o0 [1, 2] []
abbrev f88o1 : List (Nat × Pop) := [
  (0, ⟨(some 6), .mv (.tmp 1), none⟩),
  (1, ⟨(some 7), .load false 1 (.tmp 2), none⟩),
  (2, ⟨(some 8), .call 89 [(.tmp 6), (.tmp 7)], none⟩),
  (3, ⟨(some 5), .mv (.tmp 8), none⟩)]
abbrev f88r1 : Pc := .reg f88o1 [5] []
abbrev f88b : Pc := (.seq f88r0 (.seq f88r1 .ret))
abbrev f88 : Pfn := ⟨3, 9, [.tmp 5], f88b⟩
def f88K : Array (List Nat) := #[[1, 2], [5]]
def f88H : Array (List Nat) := #[[], []]
def f88A : Ann := ⟨fun r => f88K.getD r [], fun r => f88H.getD r [], fun r i => ([] : List (Nat × Nat)).contains (r, i)⟩
theorem f88C : compF Go.Proofs.Try.prog f88A 88 = some f88 := by kernel_rfl

/-- switchboard/fix.Mul -/
abbrev f89o0 : List (Nat × Pop) := [
  (0, ⟨(some 4), .mv (.c (.t (.i .i64 0))), none⟩)]
abbrev f89r0 : Pc := .reg f89o0 [0, 1] []
abbrev f89o1 : List (Nat × Pop) := [
  (0, ⟨(some 5), .mv (.tmp 0), none⟩),
  (1, ⟨(some 6), .call 41 [(.tmp 5)], none⟩),
  (2, ⟨(some 7), .mv (.tmp 1), none⟩),
  (3, ⟨(some 8), .call 41 [(.tmp 7)], none⟩),
  (4, ⟨(some 9), .bin .mul (.tmp 6) (.tmp 8), none⟩),
  (5, ⟨(some 10), .bin .quo (.tmp 9) (.c (.t (.i .i64 65536))), none⟩),
  (6, ⟨(some 11), .call 41 [(.tmp 10)], none⟩),
  (7, ⟨(some 4), .mv (.tmp 11), none⟩)]
abbrev f89r1 : Pc := .reg f89o1 [4] []
abbrev f89b : Pc := (.seq f89r0 (.seq f89r1 .ret))
abbrev f89 : Pfn := ⟨2, 12, [.tmp 4], f89b⟩
def f89K : Array (List Nat) := #[[0, 1], [4]]
def f89H : Array (List Nat) := #[[], []]
def f89A : Ann := ⟨fun r => f89K.getD r [], fun r => f89H.getD r [], fun r i => ([] : List (Nat × Nat)).contains (r, i)⟩
theorem f89C : compF Go.Proofs.Try.prog f89A 89 = some f89 := by kernel_rfl

/-- slices.Index[[]int,int] -/
abbrev f90o0 : List (Nat × Pop) := [
  (0, ⟨(some 4), .mv (.c (.t (.i .i64 0))), none⟩)]
abbrev f90r0 : Pc := .reg f90o0 [0, 1] []
abbrev f90o1 : List (Nat × Pop) := [
  (0, ⟨(some 6), .mv (.tmp 0), none⟩),
  (1, ⟨(some 7), .lenL (.tmp 6), none⟩),
  (2, ⟨(some 8), .mv (.c (.t (.i .i64 0))), none⟩)]
abbrev f90r1 : Pc := .reg f90o1 [0, 1, 7, 8] []
abbrev f90o2 : List (Nat × Pop) := [
  (0, ⟨(some 9), .bin .lss (.tmp 8) (.tmp 7), none⟩)]
abbrev f90r2 : Pc := .reg f90o2 [0, 1, 7, 8, 9] []
abbrev f90o3 : List (Nat × Pop) := [
  (0, ⟨(some 10), .mv (.tmp 8), none⟩),
  (1, ⟨(some 5), .mv (.tmp 10), none⟩)]
abbrev f90r3 : Pc := .reg f90o3 [0, 1, 5, 7, 8] []
abbrev f90o4 : List (Nat × Pop) := [
  (0, ⟨(some 11), .mv (.tmp 1), none⟩),
  (1, ⟨(some 12), .mv (.tmp 0), none⟩),
  (2, ⟨(some 13), .mv (.tmp 5), none⟩),
  (3, ⟨(some 14), .ixS 1 (.tmp 12) (.tmp 13), none⟩),
  (4, ⟨(some 15), .load false 1 (.tmp 14), none⟩),
  (5, ⟨(some 16), .bin .eql (.tmp 11) (.tmp 15), none⟩)]
abbrev f90r4 : Pc := .reg f90o4 [0, 1, 5, 7, 8, 16] []
abbrev f90o5 : List (Nat × Pop) := [
  (0, ⟨(some 17), .mv (.tmp 5), none⟩),
  (1, ⟨(some 4), .mv (.tmp 17), none⟩)]
abbrev f90r5 : Pc := .reg f90o5 [4] []
abbrev f90o6 : List (Nat × Pop) := [
  (0, ⟨(some 18), .bin .add (.tmp 8) (.c (.t (.i .i64 1))), none⟩),
  (1, ⟨(some 8), .mv (.tmp 18), none⟩)]
abbrev f90r6 : Pc := .reg f90o6 [0, 1, 7, 8] []
def f90l0 : Pc := (.seq f90r2 (.seq (.cond (.tmp 9) .skip (.exit 0)) (.seq (.block 1 (.seq f90r3 (.seq f90r4 (.cond (.tmp 16) (.seq f90r5 .ret) .skip)))) f90r6)))
theorem f90l0e (C : Cfg) (s : St) : evL C f90l0 s = evL C (.seq f90r2 (.seq (.cond (.tmp 9) .skip (.exit 0)) (.seq (.block 1 (.seq f90r3 (.seq f90r4 (.cond (.tmp 16) (.seq f90r5 .ret) .skip)))) f90r6))) s := rfl
abbrev f90o7 : List (Nat × Pop) := [
  (0, ⟨(some 4), .mv (.c (.t (.i .i64 (-1)))), none⟩)]
abbrev f90r7 : Pc := .reg f90o7 [4] []
abbrev f90b : Pc := (.seq f90r0 (.seq (.seq f90r1 (.block 0 (.loop f90l0))) (.seq f90r7 .ret)))
abbrev f90 : Pfn := ⟨2, 19, [.tmp 4], f90b⟩
def f90K : Array (List Nat) := #[[0, 1], [0, 1, 7, 8], [0, 1, 7, 8, 9], [0, 1, 5, 7, 8], [0, 1, 5, 7, 8, 16], [4], [0, 1, 7, 8], [4]]
def f90H : Array (List Nat) := #[[], [], [], [], [], [], [], []]
def f90A : Ann := ⟨fun r => f90K.getD r [], fun r => f90H.getD r [], fun r i => ([] : List (Nat × Nat)).contains (r, i)⟩
theorem f90C : compF Go.Proofs.Try.prog f90A 90 = some f90 := by kernel_rfl

/-- switchboard/vec.Dot -/
abbrev f91o0 : List (Nat × Pop) := [
  (0, ⟨(some 4), .mv (.c (.t (.i .i64 0))), none⟩),
  (1, ⟨(some 5), .mv (.c (.t (.b false))), none⟩)]
abbrev f91r0 : Pc := .reg f91o0 [0, 1] []
abbrev f91o1 : List (Nat × Pop) := [
  (0, ⟨(some 9), .mv (.tmp 0), none⟩),
  (1, ⟨(some 10), .lenL (.tmp 9), none⟩),
  (2, ⟨(some 11), .mv (.tmp 1), none⟩),
  (3, ⟨(some 12), .lenL (.tmp 11), none⟩),
  (4, ⟨(some 13), .bin .neq (.tmp 10) (.tmp 12), none⟩)]
abbrev f91r1 : Pc := .reg f91o1 [0, 1, 13] []
abbrev f91o2 : List (Nat × Pop) := [
  (0, ⟨(some 4), .mv (.c (.t (.i .i64 0))), none⟩),
  (1, ⟨(some 5), .mv (.c (.t (.b false))), none⟩)]
abbrev f91r2 : Pc := .reg f91o2 [4, 5] []
abbrev f91o3 : List (Nat × Pop) := [
  (0, ⟨(some 6), .mv (.c (.t (.i .i64 0))), none⟩)]
abbrev f91r3 : Pc := .reg f91o3 [0, 1, 6] []
abbrev f91o4 : List (Nat × Pop) := [
  (0, ⟨(some 14), .mv (.tmp 0), none⟩),
  (1, ⟨(some 15), .lenL (.tmp 14), none⟩),
  (2, ⟨(some 16), .mv (.c (.t (.i .i64 0))), none⟩)]
abbrev f91r4 : Pc := .reg f91o4 [1, 6, 14, 15, 16] []
abbrev f91o5 : List (Nat × Pop) := [
  (0, ⟨(some 17), .bin .lss (.tmp 16) (.tmp 15), none⟩)]
abbrev f91r5 : Pc := .reg f91o5 [1, 6, 14, 15, 16, 17] []
abbrev f91o6 : List (Nat × Pop) := [
  (0, ⟨(some 18), .mv (.tmp 16), none⟩),
  (1, ⟨(some 19), .ixS 1 (.tmp 14) (.tmp 16), none⟩),
  (2, ⟨(some 20), .load false 1 (.tmp 19), none⟩),
  (3, ⟨(some 7), .mv (.tmp 18), none⟩),
  (4, ⟨(some 8), .mv (.tmp 20), none⟩)]
abbrev f91r6 : Pc := .reg f91o6 [1, 6, 7, 8, 14, 15, 16] []
abbrev f91o7 : List (Nat × Pop) := [
  (0, ⟨(some 21), .mv (.tmp 6), none⟩),
  (1, ⟨(some 22), .mv (.tmp 8), none⟩),
  (2, ⟨(some 23), .mv (.tmp 1), none⟩),
  (3, ⟨(some 24), .mv (.tmp 7), none⟩),
  (4, ⟨(some 25), .ixS 1 (.tmp 23) (.tmp 24), none⟩),
  (5, ⟨(some 26), .load false 1 (.tmp 25), none⟩),
  (6, ⟨(some 27), .call 89 [(.tmp 22), (.tmp 26)], none⟩),
  (7, ⟨(some 28), .call 87 [(.tmp 21), (.tmp 27)], none⟩),
  (8, ⟨(some 6), .mv (.tmp 28), none⟩)]
abbrev f91r7 : Pc := .reg f91o7 [1, 6, 14, 15, 16] []
abbrev f91o8 : List (Nat × Pop) := [
  (0, ⟨(some 29), .bin .add (.tmp 16) (.c (.t (.i .i64 1))), none⟩),
  (1, ⟨(some 16), .mv (.tmp 29), none⟩)]
abbrev f91r8 : Pc := .reg f91o8 [1, 6, 14, 15, 16] []
def f91l0 : Pc := (.seq f91r5 (.seq (.cond (.tmp 17) .skip (.exit 0)) (.seq (.block 1 (.seq f91r6 f91r7)) f91r8)))
theorem f91l0e (C : Cfg) (s : St) : evL C f91l0 s = evL C (.seq f91r5 (.seq (.cond (.tmp 17) .skip (.exit 0)) (.seq (.block 1 (.seq f91r6 f91r7)) f91r8))) s := rfl
abbrev f91o9 : List (Nat × Pop) := [
  (0, ⟨(some 30), .mv (.tmp 6), none⟩),
  (1, ⟨(some 4), .mv (.tmp 30), none⟩),
  (2, ⟨(some 5), .mv (.c (.t (.b true))), none⟩)]
abbrev f91r9 : Pc := .reg f91o9 [4, 5] []
abbrev f91b : Pc := (.seq f91r0 (.seq (.seq f91r1 (.cond (.tmp 13) (.seq f91r2 .ret) .skip)) (.seq f91r3 (.seq (.seq f91r4 (.block 0 (.loop f91l0))) (.seq f91r9 .ret)))))
abbrev f91 : Pfn := ⟨2, 31, [.tmp 4, .tmp 5], f91b⟩
def f91K : Array (List Nat) := #[[0, 1], [0, 1, 13], [4, 5], [0, 1, 6], [1, 6, 14, 15, 16], [1, 6, 14, 15, 16, 17], [1, 6, 7, 8, 14, 15, 16], [1, 6, 14, 15, 16], [1, 6, 14, 15, 16], [4, 5]]
def f91H : Array (List Nat) := #[[], [], [], [], [], [], [], [], [], []]
def f91A : Ann := ⟨fun r => f91K.getD r [], fun r => f91H.getD r [], fun r i => ([] : List (Nat × Nat)).contains (r, i)⟩
theorem f91C : compF Go.Proofs.Try.prog f91A 91 = some f91 := by kernel_rfl

/-- switchboard/vec.Relu$1 -/
abbrev f92o0 : List (Nat × Pop) := [
  (0, ⟨(some 4), .mv (.c (.t (.i .i64 0))), none⟩)]
abbrev f92r0 : Pc := .reg f92o0 [1] []
abbrev f92o1 : List (Nat × Pop) := [
  (0, ⟨(some 5), .mv (.tmp 1), none⟩),
  (1, ⟨(some 6), .call 41 [(.tmp 5)], none⟩),
  (2, ⟨(some 7), .mm true [(.tmp 6), (.c (.t (.i .i64 0)))], none⟩),
  (3, ⟨(some 4), .mv (.tmp 7), none⟩)]
abbrev f92r1 : Pc := .reg f92o1 [4] []
abbrev f92b : Pc := (.seq f92r0 (.seq f92r1 .ret))
abbrev f92 : Pfn := ⟨2, 8, [.tmp 4], f92b⟩
def f92K : Array (List Nat) := #[[1], [4]]
def f92H : Array (List Nat) := #[[], []]
def f92A : Ann := ⟨fun r => f92K.getD r [], fun r => f92H.getD r [], fun r i => ([] : List (Nat × Nat)).contains (r, i)⟩
theorem f92C : compF Go.Proofs.Try.prog f92A 92 = some f92 := by kernel_rfl

/-- switchboard/top.Best -/
abbrev f93o0 : List (Nat × Pop) := [
  (0, ⟨(some 2), .mv (.c (.t (.i .i64 0))), none⟩)]
abbrev f93r0 : Pc := .reg f93o0 [0] []
abbrev f93o1 : List (Nat × Pop) := [
  (0, ⟨(some 3), .mv (.tmp 0), none⟩),
  (1, ⟨(some 4), .call 94 [(.tmp 3), (.c (.t (.i .i64 (-1))))], none⟩),
  (2, ⟨(some 2), .mv (.tmp 4), none⟩)]
abbrev f93r1 : Pc := .reg f93o1 [2] []
abbrev f93b : Pc := (.seq f93r0 (.seq f93r1 .ret))
abbrev f93 : Pfn := ⟨1, 5, [.tmp 2], f93b⟩
def f93K : Array (List Nat) := #[[0], [2]]
def f93H : Array (List Nat) := #[[], []]
def f93A : Ann := ⟨fun r => f93K.getD r [], fun r => f93H.getD r [], fun r i => ([] : List (Nat × Nat)).contains (r, i)⟩
theorem f93C : compF Go.Proofs.Try.prog f93A 93 = some f93 := by kernel_rfl

/-- switchboard/top.beside -/
abbrev f94o0 : List (Nat × Pop) := [
  (0, ⟨(some 4), .mv (.c (.t (.i .i64 0))), none⟩)]
abbrev f94r0 : Pc := .reg f94o0 [0, 1] []
abbrev f94o1 : List (Nat × Pop) := [
  (0, ⟨(some 5), .mv (.c (.t (.i .i64 (-1)))), none⟩)]
abbrev f94r1 : Pc := .reg f94o1 [0, 1, 5] []
abbrev f94o2 : List (Nat × Pop) := [
  (0, ⟨(some 8), .mv (.tmp 0), none⟩),
  (1, ⟨(some 9), .lenL (.tmp 8), none⟩),
  (2, ⟨(some 10), .mv (.c (.t (.i .i64 0))), none⟩)]
abbrev f94r2 : Pc := .reg f94o2 [0, 1, 5, 8, 9, 10] []
abbrev f94o3 : List (Nat × Pop) := [
  (0, ⟨(some 11), .bin .lss (.tmp 10) (.tmp 9), none⟩)]
abbrev f94r3 : Pc := .reg f94o3 [0, 1, 5, 8, 9, 10, 11] []
abbrev f94o4 : List (Nat × Pop) := [
  (0, ⟨(some 12), .mv (.tmp 10), none⟩),
  (1, ⟨(some 13), .ixS 1 (.tmp 8) (.tmp 10), none⟩),
  (2, ⟨(some 14), .load false 1 (.tmp 13), none⟩),
  (3, ⟨(some 6), .mv (.tmp 12), none⟩),
  (4, ⟨(some 7), .mv (.tmp 14), none⟩)]
abbrev f94r4 : Pc := .reg f94o4 [0, 1, 5, 6, 7, 8, 9, 10] []
abbrev f94o5 : List (Nat × Pop) := [
  (0, ⟨(some 15), .mv (.tmp 6), none⟩),
  (1, ⟨(some 16), .mv (.tmp 1), none⟩),
  (2, ⟨(some 17), .bin .neq (.tmp 15) (.tmp 16), none⟩),
  (3, ⟨(some 18), .mv (.tmp 17), none⟩),
  (4, ⟨(some 19), .mv (.tmp 5), (some (18, true))⟩),
  (5, ⟨(some 20), .bin .lss (.tmp 19) (.c (.t (.i .i64 0))), (some (18, true))⟩),
  (6, ⟨(some 21), .mv (.tmp 20), (some (18, true))⟩),
  (7, ⟨(some 22), .mv (.tmp 7), (some (21, false))⟩),
  (8, ⟨(some 23), .mv (.tmp 0), (some (21, false))⟩),
  (9, ⟨(some 24), .mv (.tmp 5), (some (21, false))⟩),
  (10, ⟨(some 25), .ixS 1 (.tmp 23) (.tmp 24), (some (21, false))⟩),
  (11, ⟨(some 26), .load false 1 (.tmp 25), (some (21, false))⟩),
  (12, ⟨(some 27), .bin .gtr (.tmp 22) (.tmp 26), (some (21, false))⟩),
  (13, ⟨(some 28), .pick (.tmp 21) (.c (.t (.b true))) (.tmp 27), (some (18, true))⟩),
  (14, ⟨(some 29), .pick (.tmp 18) (.tmp 28) (.c (.t (.b false))), none⟩)]
abbrev f94r5 : Pc := .reg f94o5 [0, 1, 5, 6, 8, 9, 10, 29] []
abbrev f94o6 : List (Nat × Pop) := [
  (0, ⟨(some 30), .mv (.tmp 6), none⟩),
  (1, ⟨(some 5), .mv (.tmp 30), none⟩)]
abbrev f94r6 : Pc := .reg f94o6 [0, 1, 5, 8, 9, 10] []
abbrev f94o7 : List (Nat × Pop) := [
  (0, ⟨(some 31), .bin .add (.tmp 10) (.c (.t (.i .i64 1))), none⟩),
  (1, ⟨(some 10), .mv (.tmp 31), none⟩)]
abbrev f94r7 : Pc := .reg f94o7 [0, 1, 5, 8, 9, 10] []
def f94l0 : Pc := (.seq f94r3 (.seq (.cond (.tmp 11) .skip (.exit 0)) (.seq (.block 1 (.seq f94r4 (.seq f94r5 (.cond (.tmp 29) f94r6 .skip)))) f94r7)))
theorem f94l0e (C : Cfg) (s : St) : evL C f94l0 s = evL C (.seq f94r3 (.seq (.cond (.tmp 11) .skip (.exit 0)) (.seq (.block 1 (.seq f94r4 (.seq f94r5 (.cond (.tmp 29) f94r6 .skip)))) f94r7))) s := rfl
abbrev f94o8 : List (Nat × Pop) := [
  (0, ⟨(some 32), .mv (.tmp 5), none⟩),
  (1, ⟨(some 4), .mv (.tmp 32), none⟩)]
abbrev f94r8 : Pc := .reg f94o8 [4] []
abbrev f94b : Pc := (.seq f94r0 (.seq f94r1 (.seq (.seq f94r2 (.block 0 (.loop f94l0))) (.seq f94r8 .ret))))
abbrev f94 : Pfn := ⟨2, 33, [.tmp 4], f94b⟩
def f94K : Array (List Nat) := #[[0, 1], [0, 1, 5], [0, 1, 5, 8, 9, 10], [0, 1, 5, 8, 9, 10, 11], [0, 1, 5, 6, 7, 8, 9, 10], [0, 1, 5, 6, 8, 9, 10, 29], [0, 1, 5, 8, 9, 10], [0, 1, 5, 8, 9, 10], [4]]
def f94H : Array (List Nat) := #[[], [], [], [], [], [], [], [], []]
def f94A : Ann := ⟨fun r => f94K.getD r [], fun r => f94H.getD r [], fun r i => ([] : List (Nat × Nat)).contains (r, i)⟩
theorem f94C : compF Go.Proofs.Try.prog f94A 94 = some f94 := by kernel_rfl


end Go.Proofs.Ytbocnaoihepjfaa.Pv
