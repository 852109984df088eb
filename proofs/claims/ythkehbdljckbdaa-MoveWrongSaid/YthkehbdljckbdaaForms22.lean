/- The functions' forms, as the pure evaluator takes them; each is what the program's code gives (kernel_rfl). -/
import Derived.Test.YthkehbdljckbdaaPevA
import Derived.Test.YthkehbdljckbdaaPevC
import Derived.Test.YthkehbdljckbdaaProg
import Derived.KernelRfl
namespace Go.Proofs.Ythkehbdljckbdaa.Pv
open Go Go.Pev
/-- switchboard/switchboardlaw22.MoveBegins -/
abbrev f9o0 : List (Nat × Pop) := [
  (0, ⟨(some 6), .box 24 2 (.tmp 0), none⟩),
  (1, ⟨(some 12), .mv (.c (.t (.b false))), none⟩)]
abbrev f9r0 : Pc := .reg f9o0 [1, 2, 3, 4, 5, 6] []
abbrev f9o1 : List (Nat × Pop) := [
  (0, ⟨(some 19), .fad 1 (.tmp 6), none⟩),
  (1, ⟨(some 20), .load false 1 (.tmp 19), none⟩),
  (2, ⟨(some 21), .call 16 [(.tmp 20)], none⟩),
  (3, ⟨(some 22), .un .not (.tmp 21), none⟩),
  (4, ⟨(some 23), .mv (.tmp 22), none⟩),
  (5, ⟨(some 24), .mv (.tmp 4), (some (23, false))⟩),
  (6, ⟨(some 25), .lenS (.tmp 24), (some (23, false))⟩),
  (7, ⟨(some 26), .bin .gtr (.tmp 25) (.c (.t (.i .i64 300))), (some (23, false))⟩),
  (8, ⟨(some 27), .pick (.tmp 23) (.c (.t (.b true))) (.tmp 26), none⟩)]
abbrev f9r1 : Pc := .reg f9o1 [1, 2, 3, 4, 5, 6, 27] []
abbrev f9o2 : List (Nat × Pop) := [
  (0, ⟨(some 28), .call 28 [], none⟩),
  (1, ⟨(some 12), .mv (.tmp 28), none⟩)]
abbrev f9r2 : Pc := .reg f9o2 [12] [6]
abbrev f9o3 : List (Nat × Pop) := [
  (0, ⟨(some 30), .load true 2 (.tmp 6), none⟩),
  (1, ⟨(some 31), .mv (.tmp 1), none⟩),
  (2, ⟨(some 32), .mv (.tmp 2), none⟩),
  (3, ⟨(some 33), .mv (.tmp 3), none⟩),
  (4, ⟨(some 34), .mv (.tmp 4), none⟩),
  (5, ⟨(some 35), .mv (.tmp 5), none⟩),
  (6, ⟨(some 36), .call 29 [(.tmp 30), (.tmp 31), (.tmp 32), (.tmp 33), (.tmp 34), (.tmp 35)], none⟩),
  (7, ⟨(some 29), .mv (.tmp 36), none⟩),
  (8, ⟨(some 37), .ext 0 (.tmp 29), none⟩),
  (9, ⟨(some 38), .ext 1 (.tmp 29), none⟩),
  (10, ⟨(some 39), .ext 2 (.tmp 29), none⟩),
  (11, ⟨(some 13), .alloc 48 [(.t (.i .i64 0)), (.t (.i .i64 0)), (.t (.i .i64 0)), (.t (.i .i64 0)), (.t (.i .i64 0)), .nl, .nl], none⟩),
  (12, ⟨none, .store 7 (.tmp 13) (.tmp 37), none⟩),
  (13, ⟨(some 14), .mv (.tmp 38), none⟩),
  (14, ⟨(some 15), .mv (.tmp 39), none⟩)]
abbrev f9r3 : Pc := .reg f9o3 [1, 2, 3, 4, 5, 6, 13, 14, 15] []
abbrev f9o4 : List (Nat × Pop) := [
  (0, ⟨(some 41), .load true 2 (.tmp 6), none⟩),
  (1, ⟨(some 42), .mv (.tmp 1), none⟩),
  (2, ⟨(some 43), .mv (.tmp 2), none⟩),
  (3, ⟨(some 44), .mv (.tmp 3), none⟩),
  (4, ⟨(some 45), .mv (.tmp 4), none⟩),
  (5, ⟨(some 46), .mv (.tmp 5), none⟩),
  (6, ⟨(some 47), .call 30 [(.tmp 41), (.tmp 42), (.tmp 43), (.tmp 44), (.tmp 45), (.tmp 46)], none⟩),
  (7, ⟨(some 40), .mv (.tmp 47), none⟩),
  (8, ⟨(some 48), .ext 0 (.tmp 40), none⟩),
  (9, ⟨(some 49), .ext 1 (.tmp 40), none⟩),
  (10, ⟨(some 50), .ext 2 (.tmp 40), none⟩),
  (11, ⟨(some 16), .alloc 51 [(.t (.i .i64 0)), (.t (.i .i64 0)), (.t (.i .i64 0)), (.t (.i .i64 0)), (.t (.i .i64 0)), .nl, .nl], none⟩),
  (12, ⟨none, .store 7 (.tmp 16) (.tmp 48), none⟩),
  (13, ⟨(some 17), .mv (.tmp 49), none⟩),
  (14, ⟨(some 18), .mv (.tmp 50), none⟩)]
abbrev f9r4 : Pc := .reg f9o4 [13, 14, 15, 16, 17, 18] [6]
abbrev f9o5 : List (Nat × Pop) := [
  (0, ⟨(some 51), .load true 7 (.tmp 13), none⟩),
  (1, ⟨(some 52), .callq 32 [(.tmp 51)], none⟩),
  (2, ⟨(some 53), .load true 7 (.tmp 16), none⟩),
  (3, ⟨(some 54), .callq 31 [(.tmp 52), (.tmp 53)], none⟩),
  (4, ⟨(some 55), .mv (.tmp 54), none⟩),
  (5, ⟨(some 56), .mv (.tmp 14), (some (55, true))⟩),
  (6, ⟨(some 57), .mv (.tmp 17), (some (55, true))⟩),
  (7, ⟨(some 58), .callq 33 [(.tmp 56), (.tmp 57)], (some (55, true))⟩),
  (8, ⟨(some 59), .pick (.tmp 55) (.tmp 58) (.c (.t (.b false))), none⟩),
  (9, ⟨(some 60), .mv (.tmp 59), none⟩),
  (10, ⟨(some 61), .mv (.tmp 15), (some (60, true))⟩),
  (11, ⟨(some 62), .mv (.tmp 18), (some (60, true))⟩),
  (12, ⟨(some 63), .bin .eql (.tmp 61) (.tmp 62), (some (60, true))⟩),
  (13, ⟨(some 64), .pick (.tmp 60) (.tmp 63) (.c (.t (.b false))), none⟩),
  (14, ⟨(some 65), .mv (.tmp 64), none⟩),
  (15, ⟨(some 66), .callq 28 [], (some (65, true))⟩),
  (16, ⟨(some 67), .pick (.tmp 65) (.tmp 66) (.c (.t (.b false))), none⟩),
  (17, ⟨(some 12), .mv (.tmp 67), none⟩)]
abbrev f9r5 : Pc := .reg f9o5 [12] [13, 16]
abbrev f9b : Pc := (.seq f9r0 (.seq (.seq f9r1 (.cond (.tmp 27) (.seq f9r2 .ret) .skip)) (.seq f9r3 (.seq f9r4 (.seq f9r5 .ret)))))
abbrev f9 : Pfn := ⟨6, 68, [.tmp 12], f9b⟩
def f9K : Array (List Nat) := #[[1, 2, 3, 4, 5, 6], [1, 2, 3, 4, 5, 6, 27], [12], [1, 2, 3, 4, 5, 6, 13, 14, 15], [13, 14, 15, 16, 17, 18], [12]]
def f9H : Array (List Nat) := #[[], [], [6], [], [6], [13, 16]]
def f9A : Ann := ⟨fun r => f9K.getD r [], fun r => f9H.getD r [], fun r i => ([] : List (Nat × Nat)).contains (r, i)⟩
theorem f9C : compF Go.Proofs.Try.prog f9A 9 = some f9 := by kernel_rfl

/-- switchboard/switchboardlaw22.MovePieces -/
abbrev f10o0 : List (Nat × Pop) := [
  (0, ⟨(some 3), .box 48 7 (.tmp 0), none⟩),
  (1, ⟨(some 6), .mv (.c (.t (.b false))), none⟩)]
abbrev f10r0 : Pc := .reg f10o0 [1, 2, 3] []
abbrev f10o1 : List (Nat × Pop) := [
  (0, ⟨(some 15), .load true 7 (.tmp 3), none⟩),
  (1, ⟨(some 16), .call 34 [(.tmp 15)], none⟩),
  (2, ⟨(some 17), .un .not (.tmp 16), none⟩),
  (3, ⟨(some 18), .mv (.tmp 17), none⟩),
  (4, ⟨(some 19), .mv (.tmp 2), (some (18, false))⟩),
  (5, ⟨(some 20), .lenS (.tmp 19), (some (18, false))⟩),
  (6, ⟨(some 21), .bin .gtr (.tmp 20) (.c (.t (.i .i64 100))), (some (18, false))⟩),
  (7, ⟨(some 22), .pick (.tmp 18) (.c (.t (.b true))) (.tmp 21), none⟩)]
abbrev f10r1 : Pc := .reg f10o1 [1, 2, 3, 22] []
abbrev f10o2 : List (Nat × Pop) := [
  (0, ⟨(some 23), .call 28 [], none⟩),
  (1, ⟨(some 6), .mv (.tmp 23), none⟩)]
abbrev f10r2 : Pc := .reg f10o2 [6] [3]
abbrev f10o3 : List (Nat × Pop) := [
  (0, ⟨(some 25), .load true 7 (.tmp 3), none⟩),
  (1, ⟨(some 26), .mv (.tmp 1), none⟩),
  (2, ⟨(some 27), .mv (.tmp 2), none⟩),
  (3, ⟨(some 28), .call 35 [(.tmp 25), (.tmp 26), (.tmp 27)], none⟩),
  (4, ⟨(some 24), .mv (.tmp 28), none⟩),
  (5, ⟨(some 29), .ext 0 (.tmp 24), none⟩),
  (6, ⟨(some 30), .ext 1 (.tmp 24), none⟩),
  (7, ⟨(some 7), .alloc 48 [(.t (.i .i64 0)), (.t (.i .i64 0)), (.t (.i .i64 0)), (.t (.i .i64 0)), (.t (.i .i64 0)), .nl, .nl], none⟩),
  (8, ⟨none, .store 7 (.tmp 7) (.tmp 29), none⟩),
  (9, ⟨(some 8), .mv (.tmp 30), none⟩)]
abbrev f10r3 : Pc := .reg f10o3 [1, 2, 3, 7, 8] []
abbrev f10o4 : List (Nat × Pop) := [
  (0, ⟨(some 32), .load true 7 (.tmp 3), none⟩),
  (1, ⟨(some 33), .call 32 [(.tmp 32)], none⟩),
  (2, ⟨(some 34), .mv (.tmp 1), none⟩),
  (3, ⟨(some 35), .mv (.tmp 2), none⟩),
  (4, ⟨(some 36), .call 36 [(.tmp 33), (.tmp 34), (.tmp 35)], none⟩),
  (5, ⟨(some 31), .mv (.tmp 36), none⟩),
  (6, ⟨(some 37), .ext 0 (.tmp 31), none⟩),
  (7, ⟨(some 38), .ext 1 (.tmp 31), none⟩),
  (8, ⟨(some 9), .alloc 51 [(.t (.i .i64 0)), (.t (.i .i64 0)), (.t (.i .i64 0)), (.t (.i .i64 0)), (.t (.i .i64 0)), .nl, .nl], none⟩),
  (9, ⟨none, .store 7 (.tmp 9) (.tmp 37), none⟩),
  (10, ⟨(some 10), .mv (.tmp 38), none⟩)]
abbrev f10r4 : Pc := .reg f10o4 [3, 7, 8, 9, 10] []
abbrev f10o5 : List (Nat × Pop) := [
  (0, ⟨(some 40), .load true 7 (.tmp 3), none⟩),
  (1, ⟨(some 41), .call 37 [(.tmp 40)], none⟩),
  (2, ⟨(some 39), .mv (.tmp 41), none⟩),
  (3, ⟨(some 42), .ext 0 (.tmp 39), none⟩),
  (4, ⟨(some 43), .ext 1 (.tmp 39), none⟩),
  (5, ⟨(some 11), .mv (.tmp 42), none⟩),
  (6, ⟨(some 12), .mv (.tmp 43), none⟩)]
abbrev f10r5 : Pc := .reg f10o5 [3, 7, 8, 9, 10, 11, 12] []
abbrev f10o6 : List (Nat × Pop) := [
  (0, ⟨(some 44), .fad 3 (.tmp 3), none⟩),
  (1, ⟨(some 45), .load false 1 (.tmp 44), none⟩),
  (2, ⟨(some 46), .bin .eql (.tmp 45) (.c (.t (.i .i64 2))), none⟩),
  (3, ⟨(some 47), .mv (.tmp 46), none⟩),
  (4, ⟨(some 48), .fad 3 (.tmp 3), (some (47, false))⟩),
  (5, ⟨(some 49), .load false 1 (.tmp 48), (some (47, false))⟩),
  (6, ⟨(some 50), .bin .eql (.tmp 49) (.c (.t (.i .i64 3))), (some (47, false))⟩),
  (7, ⟨(some 51), .pick (.tmp 47) (.c (.t (.b true))) (.tmp 50), none⟩),
  (8, ⟨(some 13), .mv (.tmp 51), none⟩)]
abbrev f10r6 : Pc := .reg f10o6 [3, 7, 8, 9, 10, 11, 12, 13] []
abbrev f10o7 : List (Nat × Pop) := [
  (0, ⟨(some 14), .mv (.c (.t (.s []))), none⟩)]
abbrev f10r7 : Pc := .reg f10o7 [3, 7, 8, 9, 10, 11, 12, 13, 14] []
abbrev f10o8 : List (Nat × Pop) := [
  (0, ⟨(some 52), .mv (.tmp 13), none⟩)]
abbrev f10r8 : Pc := .reg f10o8 [3, 7, 8, 9, 10, 11, 12, 13, 14, 52] []
abbrev f10o9 : List (Nat × Pop) := [
  (0, ⟨(some 53), .fad 6 (.tmp 3), none⟩),
  (1, ⟨(some 54), .load false 1 (.tmp 53), none⟩),
  (2, ⟨(some 55), .call 38 [(.tmp 54)], none⟩),
  (3, ⟨(some 14), .mv (.tmp 55), none⟩)]
abbrev f10r9 : Pc := .reg f10o9 [7, 8, 9, 10, 11, 12, 13, 14] [3]
abbrev f10o10 : List (Nat × Pop) := [
  (0, ⟨(some 56), .load true 7 (.tmp 7), none⟩),
  (1, ⟨(some 57), .callq 32 [(.tmp 56)], none⟩),
  (2, ⟨(some 58), .load true 7 (.tmp 9), none⟩),
  (3, ⟨(some 59), .callq 31 [(.tmp 57), (.tmp 58)], none⟩),
  (4, ⟨(some 60), .mv (.tmp 59), none⟩),
  (5, ⟨(some 61), .mv (.tmp 8), (some (60, true))⟩),
  (6, ⟨(some 62), .mv (.tmp 10), (some (60, true))⟩),
  (7, ⟨(some 63), .bin .eql (.tmp 61) (.tmp 62), (some (60, true))⟩),
  (8, ⟨(some 64), .pick (.tmp 60) (.tmp 63) (.c (.t (.b false))), none⟩),
  (9, ⟨(some 65), .mv (.tmp 64), none⟩),
  (10, ⟨(some 66), .mv (.tmp 11), (some (65, true))⟩),
  (11, ⟨(some 67), .mv (.tmp 14), (some (65, true))⟩),
  (12, ⟨(some 68), .bin .eql (.tmp 66) (.tmp 67), (some (65, true))⟩),
  (13, ⟨(some 69), .pick (.tmp 65) (.tmp 68) (.c (.t (.b false))), none⟩),
  (14, ⟨(some 70), .mv (.tmp 69), none⟩),
  (15, ⟨(some 71), .mv (.tmp 12), (some (70, true))⟩),
  (16, ⟨(some 72), .mv (.tmp 13), (some (70, true))⟩),
  (17, ⟨(some 73), .beq false (.tmp 71) (.tmp 72), (some (70, true))⟩),
  (18, ⟨(some 74), .pick (.tmp 70) (.tmp 73) (.c (.t (.b false))), none⟩),
  (19, ⟨(some 75), .mv (.tmp 74), none⟩),
  (20, ⟨(some 76), .callq 28 [], (some (75, true))⟩),
  (21, ⟨(some 77), .pick (.tmp 75) (.tmp 76) (.c (.t (.b false))), none⟩),
  (22, ⟨(some 6), .mv (.tmp 77), none⟩)]
abbrev f10r10 : Pc := .reg f10o10 [6] [3, 7, 9]
abbrev f10b : Pc := (.seq f10r0 (.seq (.seq f10r1 (.cond (.tmp 22) (.seq f10r2 .ret) .skip)) (.seq f10r3 (.seq f10r4 (.seq f10r5 (.seq f10r6 (.seq f10r7 (.seq (.seq f10r8 (.cond (.tmp 52) f10r9 .skip)) (.seq f10r10 .ret)))))))))
abbrev f10 : Pfn := ⟨3, 78, [.tmp 6], f10b⟩
def f10K : Array (List Nat) := #[[1, 2, 3], [1, 2, 3, 22], [6], [1, 2, 3, 7, 8], [3, 7, 8, 9, 10], [3, 7, 8, 9, 10, 11, 12], [3, 7, 8, 9, 10, 11, 12, 13], [3, 7, 8, 9, 10, 11, 12, 13, 14], [3, 7, 8, 9, 10, 11, 12, 13, 14, 52], [7, 8, 9, 10, 11, 12, 13, 14], [6]]
def f10H : Array (List Nat) := #[[], [], [3], [], [], [], [], [], [], [3], [3, 7, 9]]
def f10A : Ann := ⟨fun r => f10K.getD r [], fun r => f10H.getD r [], fun r i => ([] : List (Nat × Nat)).contains (r, i)⟩
theorem f10C : compF Go.Proofs.Try.prog f10A 10 = some f10 := by kernel_rfl

/-- switchboard/switchboardlaw22.MoveWhole -/
abbrev f11o0 : List (Nat × Pop) := [
  (0, ⟨(some 6), .mv (.c (.t (.b false))), none⟩)]
abbrev f11r0 : Pc := .reg f11o0 [0, 1, 2] []
abbrev f11o1 : List (Nat × Pop) := [
  (0, ⟨(some 19), .mv (.tmp 0), none⟩),
  (1, ⟨(some 20), .bin .eql (.tmp 19) (.c (.t (.s []))), none⟩),
  (2, ⟨(some 21), .mv (.tmp 20), none⟩),
  (3, ⟨(some 22), .mv (.tmp 0), (some (21, false))⟩),
  (4, ⟨(some 23), .lenS (.tmp 22), (some (21, false))⟩),
  (5, ⟨(some 24), .bin .gtr (.tmp 23) (.c (.t (.i .i64 300))), (some (21, false))⟩),
  (6, ⟨(some 25), .pick (.tmp 21) (.c (.t (.b true))) (.tmp 24), none⟩)]
abbrev f11r1 : Pc := .reg f11o1 [0, 1, 2, 25] []
abbrev f11o2 : List (Nat × Pop) := [
  (0, ⟨(some 26), .call 28 [], none⟩),
  (1, ⟨(some 6), .mv (.tmp 26), none⟩)]
abbrev f11r2 : Pc := .reg f11o2 [6] []
abbrev f11o3 : List (Nat × Pop) := [
  (0, ⟨(some 28), .call 39 [], none⟩),
  (1, ⟨(some 29), .mv (.tmp 0), none⟩),
  (2, ⟨(some 30), .mv (.tmp 1), none⟩),
  (3, ⟨(some 31), .bin .rem (.tmp 30) (.c (.t (.i .u8 64))), none⟩),
  (4, ⟨(some 32), .cvi .i64 (.tmp 31), none⟩),
  (5, ⟨(some 33), .bin .add (.c (.t (.i .i64 1))) (.tmp 32), none⟩),
  (6, ⟨(some 34), .call 29 [(.tmp 28), (.c (.t (.i .i64 0))), (.c (.t (.i .i64 1))), (.c (.t (.i .i64 3))), (.tmp 29), (.tmp 33)], none⟩),
  (7, ⟨(some 27), .mv (.tmp 34), none⟩),
  (8, ⟨(some 35), .ext 0 (.tmp 27), none⟩),
  (9, ⟨(some 36), .ext 1 (.tmp 27), none⟩),
  (10, ⟨(some 37), .ext 2 (.tmp 27), none⟩),
  (11, ⟨(some 7), .alloc 48 [(.t (.i .i64 0)), (.t (.i .i64 0)), (.t (.i .i64 0)), (.t (.i .i64 0)), (.t (.i .i64 0)), .nl, .nl], none⟩),
  (12, ⟨none, .store 7 (.tmp 7) (.tmp 35), none⟩),
  (13, ⟨(some 8), .mv (.tmp 36), none⟩),
  (14, ⟨(some 9), .mv (.tmp 37), none⟩)]
abbrev f11r3 : Pc := .reg f11o3 [0, 2, 7, 8, 9] []
abbrev f11o4 : List (Nat × Pop) := [
  (0, ⟨(some 38), .mv (.tmp 9), none⟩),
  (1, ⟨(some 39), .bin .neq (.tmp 38) (.c (.t (.i .i64 0))), none⟩),
  (2, ⟨(some 40), .mv (.tmp 39), none⟩),
  (3, ⟨(some 41), .mv (.tmp 8), (some (40, false))⟩),
  (4, ⟨(some 42), .lenL (.tmp 41), (some (40, false))⟩),
  (5, ⟨(some 43), .bin .eql (.tmp 42) (.c (.t (.i .i64 0))), (some (40, false))⟩),
  (6, ⟨(some 44), .pick (.tmp 40) (.c (.t (.b true))) (.tmp 43), none⟩)]
abbrev f11r4 : Pc := .reg f11o4 [0, 2, 7, 8, 44] []
abbrev f11o5 : List (Nat × Pop) := [
  (0, ⟨(some 6), .mv (.c (.t (.b false))), none⟩)]
abbrev f11r5 : Pc := .reg f11o5 [6] [7]
abbrev f11o6 : List (Nat × Pop) := [
  (0, ⟨(some 45), .mv (.tmp 8), none⟩),
  (1, ⟨(some 46), .lenL (.tmp 45), none⟩),
  (2, ⟨(some 47), .mks 4 1 1 [(.b false)] (.tmp 46) (.tmp 46), none⟩),
  (3, ⟨(some 10), .mv (.tmp 47), none⟩)]
abbrev f11r6 : Pc := .reg f11o6 [0, 2, 7, 8, 10] []
abbrev f11o7 : List (Nat × Pop) := [
  (0, ⟨(some 48), .mv (.tmp 8), none⟩),
  (1, ⟨(some 49), .lenL (.tmp 48), none⟩),
  (2, ⟨(some 11), .mv (.tmp 49), none⟩)]
abbrev f11r7 : Pc := .reg f11o7 [0, 2, 7, 8, 10, 11] []
abbrev f11o8 : List (Nat × Pop) := [
  (0, ⟨(some 12), .mv (.c (.t (.i .i64 0))), none⟩)]
abbrev f11r8 : Pc := .reg f11o8 [0, 2, 7, 8, 10, 11, 12] []
abbrev f11o9 : List (Nat × Pop) := [
  (0, ⟨(some 50), .mv (.tmp 12), none⟩),
  (1, ⟨(some 51), .mv (.tmp 2), none⟩),
  (2, ⟨(some 52), .lenL (.tmp 51), none⟩),
  (3, ⟨(some 53), .bin .lss (.tmp 50) (.tmp 52), none⟩),
  (4, ⟨(some 54), .mv (.tmp 53), none⟩),
  (5, ⟨(some 55), .mv (.tmp 12), (some (54, true))⟩),
  (6, ⟨(some 56), .bin .lss (.tmp 55) (.c (.t (.i .i64 300))), (some (54, true))⟩),
  (7, ⟨(some 57), .pick (.tmp 54) (.tmp 56) (.c (.t (.b false))), none⟩),
  (8, ⟨(some 58), .mv (.tmp 57), none⟩),
  (9, ⟨(some 59), .mv (.tmp 11), (some (58, true))⟩),
  (10, ⟨(some 60), .bin .gtr (.tmp 59) (.c (.t (.i .i64 0))), (some (58, true))⟩),
  (11, ⟨(some 61), .pick (.tmp 58) (.tmp 60) (.c (.t (.b false))), none⟩)]
abbrev f11r9 : Pc := .reg f11o9 [0, 2, 7, 8, 10, 11, 12, 61] []
abbrev f11o11 : List (Nat × Pop) := [
  (0, ⟨(some 64), .mv (.tmp 2), none⟩),
  (1, ⟨(some 65), .mv (.tmp 12), none⟩),
  (2, ⟨(some 66), .ixS 1 (.tmp 64) (.tmp 65), none⟩),
  (3, ⟨(some 67), .load false 1 (.tmp 66), none⟩),
  (4, ⟨(some 68), .cvi .i64 (.tmp 67), none⟩),
  (5, ⟨(some 69), .mv (.tmp 8), none⟩),
  (6, ⟨(some 70), .lenL (.tmp 69), none⟩),
  (7, ⟨(some 71), .bin .rem (.tmp 68) (.tmp 70), none⟩),
  (8, ⟨(some 13), .mv (.tmp 71), none⟩)]
abbrev f11r11 : Pc := .reg f11o11 [0, 2, 7, 8, 10, 11, 12, 13] []
abbrev f11o12 : List (Nat × Pop) := [
  (0, ⟨(some 73), .load true 7 (.tmp 7), none⟩),
  (1, ⟨(some 74), .mv (.tmp 13), none⟩),
  (2, ⟨(some 75), .mv (.tmp 8), none⟩),
  (3, ⟨(some 76), .mv (.tmp 13), none⟩),
  (4, ⟨(some 77), .ixS 1 (.tmp 75) (.tmp 76), none⟩),
  (5, ⟨(some 78), .load false 1 (.tmp 77), none⟩),
  (6, ⟨(some 79), .callq 35 [(.tmp 73), (.tmp 74), (.tmp 78)], none⟩),
  (7, ⟨(some 72), .mv (.tmp 79), none⟩),
  (8, ⟨(some 80), .ext 0 (.tmp 72), none⟩),
  (9, ⟨(some 81), .ext 1 (.tmp 72), none⟩),
  (10, ⟨(some 14), .alloc 48 [(.t (.i .i64 0)), (.t (.i .i64 0)), (.t (.i .i64 0)), (.t (.i .i64 0)), (.t (.i .i64 0)), .nl, .nl], none⟩),
  (11, ⟨none, .store 7 (.tmp 14) (.tmp 80), none⟩),
  (12, ⟨(some 15), .mv (.tmp 81), none⟩)]
abbrev f11r12 : Pc := .reg f11o12 [0, 2, 7, 8, 10, 11, 12, 13, 14, 15] []
abbrev f11o13 : List (Nat × Pop) := [
  (0, ⟨(some 82), .mv (.tmp 15), none⟩),
  (1, ⟨(some 83), .bin .eql (.tmp 82) (.c (.t (.i .i64 0))), none⟩),
  (2, ⟨(some 84), .mv (.tmp 10), none⟩),
  (3, ⟨(some 85), .mv (.tmp 13), none⟩),
  (4, ⟨(some 86), .ixS 1 (.tmp 84) (.tmp 85), none⟩),
  (5, ⟨(some 87), .load false 1 (.tmp 86), none⟩),
  (6, ⟨(some 88), .beq false (.tmp 83) (.tmp 87), none⟩),
  (7, ⟨(some 89), .mv (.tmp 88), none⟩),
  (8, ⟨(some 90), .mv (.tmp 15), (some (89, false))⟩),
  (9, ⟨(some 91), .bin .neq (.tmp 90) (.c (.t (.i .i64 0))), (some (89, false))⟩),
  (10, ⟨(some 92), .mv (.tmp 91), (some (89, false))⟩),
  (11, ⟨(some 93), .mv (.tmp 15), (some (92, true))⟩),
  (12, ⟨(some 94), .bin .neq (.tmp 93) (.c (.t (.i .i64 5))), (some (92, true))⟩),
  (13, ⟨(some 95), .pick (.tmp 92) (.tmp 94) (.c (.t (.b false))), (some (89, false))⟩),
  (14, ⟨(some 96), .pick (.tmp 89) (.c (.t (.b true))) (.tmp 95), none⟩)]
abbrev f11r13 : Pc := .reg f11o13 [0, 2, 7, 8, 10, 11, 12, 13, 14, 96] []
abbrev f11o14 : List (Nat × Pop) := [
  (0, ⟨(some 6), .mv (.c (.t (.b false))), none⟩)]
abbrev f11r14 : Pc := .reg f11o14 [6] [7, 14, 47]
abbrev f11o15 : List (Nat × Pop) := [
  (0, ⟨(some 97), .mv (.tmp 10), none⟩),
  (1, ⟨(some 98), .mv (.tmp 13), none⟩),
  (2, ⟨(some 99), .ixS 1 (.tmp 97) (.tmp 98), none⟩),
  (3, ⟨(some 100), .load false 1 (.tmp 99), none⟩),
  (4, ⟨(some 101), .un .not (.tmp 100), none⟩)]
abbrev f11r15 : Pc := .reg f11o15 [0, 2, 7, 8, 10, 11, 12, 13, 14, 101] []
abbrev f11o16 : List (Nat × Pop) := [
  (0, ⟨(some 102), .mv (.tmp 11), none⟩),
  (1, ⟨(some 103), .bin .sub (.tmp 102) (.c (.t (.i .i64 1))), none⟩),
  (2, ⟨(some 11), .mv (.tmp 103), none⟩)]
abbrev f11r16 : Pc := .reg f11o16 [0, 2, 7, 8, 10, 11, 12, 13, 14] []
abbrev f11o17 : List (Nat × Pop) := [
  (0, ⟨(some 104), .mv (.tmp 10), none⟩),
  (1, ⟨(some 105), .mv (.tmp 13), none⟩),
  (2, ⟨(some 106), .ixS 1 (.tmp 104) (.tmp 105), none⟩),
  (3, ⟨none, .store 1 (.tmp 106) (.c (.t (.b true))), none⟩)]
abbrev f11r17 : Pc := .reg f11o17 [0, 2, 7, 8, 10, 11, 12, 14] []
abbrev f11o18 : List (Nat × Pop) := [
  (0, ⟨(some 107), .load true 7 (.tmp 14), none⟩),
  (1, ⟨none, .store 7 (.tmp 7) (.tmp 107), none⟩)]
abbrev f11r18 : Pc := .reg f11o18 [0, 2, 7, 8, 10, 11, 12] [14]
abbrev f11o19 : List (Nat × Pop) := [
  (0, ⟨(some 108), .fad 3 (.tmp 7), none⟩),
  (1, ⟨(some 109), .load false 1 (.tmp 108), none⟩),
  (2, ⟨(some 110), .bin .eql (.tmp 109) (.c (.t (.i .i64 2))), none⟩),
  (3, ⟨(some 111), .mv (.tmp 11), none⟩),
  (4, ⟨(some 112), .bin .eql (.tmp 111) (.c (.t (.i .i64 0))), none⟩),
  (5, ⟨(some 113), .beq true (.tmp 110) (.tmp 112), none⟩)]
abbrev f11r19 : Pc := .reg f11o19 [0, 2, 7, 8, 10, 11, 12, 113] []
abbrev f11o20 : List (Nat × Pop) := [
  (0, ⟨(some 6), .mv (.c (.t (.b false))), none⟩)]
abbrev f11r20 : Pc := .reg f11o20 [6] [7, 47]
abbrev f11o10 : List (Nat × Pop) := [
  (0, ⟨(some 62), .mv (.tmp 12), none⟩),
  (1, ⟨(some 63), .bin .add (.tmp 62) (.c (.t (.i .i64 1))), none⟩),
  (2, ⟨(some 12), .mv (.tmp 63), none⟩)]
abbrev f11r10 : Pc := .reg f11o10 [0, 2, 7, 8, 10, 11, 12] []
def f11l0 : Pc := (.seq (.seq f11r9 (.cond (.tmp 61) .skip (.exit 0))) (.seq (.block 1 (.seq f11r11 (.seq f11r12 (.seq (.seq f11r13 (.cond (.tmp 96) (.seq f11r14 .ret) .skip)) (.seq (.seq f11r15 (.cond (.tmp 101) f11r16 .skip)) (.seq f11r17 (.seq f11r18 (.seq f11r19 (.cond (.tmp 113) (.seq f11r20 .ret) .skip))))))))) f11r10))
theorem f11l0e (C : Cfg) (s : St) : evL C f11l0 s = evL C (.seq (.seq f11r9 (.cond (.tmp 61) .skip (.exit 0))) (.seq (.block 1 (.seq f11r11 (.seq f11r12 (.seq (.seq f11r13 (.cond (.tmp 96) (.seq f11r14 .ret) .skip)) (.seq (.seq f11r15 (.cond (.tmp 101) f11r16 .skip)) (.seq f11r17 (.seq f11r18 (.seq f11r19 (.cond (.tmp 113) (.seq f11r20 .ret) .skip))))))))) f11r10)) s := rfl
abbrev f11o21 : List (Nat × Pop) := [
  (0, ⟨(some 114), .mv (.tmp 8), none⟩),
  (1, ⟨(some 115), .lenL (.tmp 114), none⟩),
  (2, ⟨(some 116), .mv (.c (.t (.i .i64 0))), none⟩)]
abbrev f11r21 : Pc := .reg f11o21 [0, 7, 8, 10, 115, 116] []
abbrev f11o22 : List (Nat × Pop) := [
  (0, ⟨(some 117), .bin .lss (.tmp 116) (.tmp 115), none⟩)]
abbrev f11r22 : Pc := .reg f11o22 [0, 7, 8, 10, 115, 116, 117] []
abbrev f11o23 : List (Nat × Pop) := [
  (0, ⟨(some 118), .mv (.tmp 116), none⟩),
  (1, ⟨(some 16), .mv (.tmp 118), none⟩)]
abbrev f11r23 : Pc := .reg f11o23 [0, 7, 8, 10, 16, 115, 116] []
abbrev f11o24 : List (Nat × Pop) := [
  (0, ⟨(some 119), .mv (.tmp 10), none⟩),
  (1, ⟨(some 120), .mv (.tmp 16), none⟩),
  (2, ⟨(some 121), .ixS 1 (.tmp 119) (.tmp 120), none⟩),
  (3, ⟨(some 122), .load false 1 (.tmp 121), none⟩),
  (4, ⟨(some 123), .un .not (.tmp 122), none⟩)]
abbrev f11r24 : Pc := .reg f11o24 [0, 7, 8, 10, 16, 115, 116, 123] []
abbrev f11o25 : List (Nat × Pop) := [
  (0, ⟨(some 125), .load true 7 (.tmp 7), none⟩),
  (1, ⟨(some 126), .mv (.tmp 16), none⟩),
  (2, ⟨(some 127), .mv (.tmp 8), none⟩),
  (3, ⟨(some 128), .mv (.tmp 16), none⟩),
  (4, ⟨(some 129), .ixS 1 (.tmp 127) (.tmp 128), none⟩),
  (5, ⟨(some 130), .load false 1 (.tmp 129), none⟩),
  (6, ⟨(some 131), .callq 35 [(.tmp 125), (.tmp 126), (.tmp 130)], none⟩),
  (7, ⟨(some 124), .mv (.tmp 131), none⟩),
  (8, ⟨(some 132), .ext 0 (.tmp 124), none⟩),
  (9, ⟨(some 133), .ext 1 (.tmp 124), none⟩),
  (10, ⟨none, .store 7 (.tmp 7) (.tmp 132), none⟩)]
abbrev f11r25 : Pc := .reg f11o25 [0, 7, 8, 10, 115, 116] []
abbrev f11o26 : List (Nat × Pop) := [
  (0, ⟨(some 134), .bin .add (.tmp 116) (.c (.t (.i .i64 1))), none⟩),
  (1, ⟨(some 116), .mv (.tmp 134), none⟩)]
abbrev f11r26 : Pc := .reg f11o26 [0, 7, 8, 10, 115, 116] []
def f11l1 : Pc := (.seq f11r22 (.seq (.cond (.tmp 117) .skip (.exit 2)) (.seq (.block 3 (.seq f11r23 (.seq f11r24 (.cond (.tmp 123) f11r25 .skip)))) f11r26)))
theorem f11l1e (C : Cfg) (s : St) : evL C f11l1 s = evL C (.seq f11r22 (.seq (.cond (.tmp 117) .skip (.exit 2)) (.seq (.block 3 (.seq f11r23 (.seq f11r24 (.cond (.tmp 123) f11r25 .skip)))) f11r26))) s := rfl
abbrev f11o27 : List (Nat × Pop) := [
  (0, ⟨(some 136), .load true 7 (.tmp 7), none⟩),
  (1, ⟨(some 137), .call 37 [(.tmp 136)], none⟩),
  (2, ⟨(some 135), .mv (.tmp 137), none⟩),
  (3, ⟨(some 138), .ext 0 (.tmp 135), none⟩),
  (4, ⟨(some 139), .ext 1 (.tmp 135), none⟩),
  (5, ⟨(some 17), .mv (.tmp 138), none⟩),
  (6, ⟨(some 18), .mv (.tmp 139), none⟩)]
abbrev f11r27 : Pc := .reg f11o27 [0, 7, 17, 18] [47]
abbrev f11o28 : List (Nat × Pop) := [
  (0, ⟨(some 140), .mv (.tmp 17), none⟩),
  (1, ⟨(some 141), .mv (.tmp 0), none⟩),
  (2, ⟨(some 142), .bin .eql (.tmp 140) (.tmp 141), none⟩),
  (3, ⟨(some 143), .mv (.tmp 142), none⟩),
  (4, ⟨(some 144), .mv (.tmp 18), (some (143, true))⟩),
  (5, ⟨(some 145), .pick (.tmp 143) (.tmp 144) (.c (.t (.b false))), none⟩),
  (6, ⟨(some 146), .mv (.tmp 145), none⟩),
  (7, ⟨(some 147), .fad 3 (.tmp 7), (some (146, true))⟩),
  (8, ⟨(some 148), .load false 1 (.tmp 147), (some (146, true))⟩),
  (9, ⟨(some 149), .bin .eql (.tmp 148) (.c (.t (.i .i64 2))), (some (146, true))⟩),
  (10, ⟨(some 150), .pick (.tmp 146) (.tmp 149) (.c (.t (.b false))), none⟩),
  (11, ⟨(some 151), .mv (.tmp 150), none⟩),
  (12, ⟨(some 152), .call 28 [], (some (151, true))⟩),
  (13, ⟨(some 153), .pick (.tmp 151) (.tmp 152) (.c (.t (.b false))), none⟩),
  (14, ⟨(some 6), .mv (.tmp 153), none⟩)]
abbrev f11r28 : Pc := .reg f11o28 [6] [7]
abbrev f11b : Pc := (.seq f11r0 (.seq (.seq f11r1 (.cond (.tmp 25) (.seq f11r2 .ret) .skip)) (.seq f11r3 (.seq (.seq f11r4 (.cond (.tmp 44) (.seq f11r5 .ret) .skip)) (.seq f11r6 (.seq f11r7 (.seq (.seq f11r8 (.block 0 (.loop f11l0))) (.seq (.seq f11r21 (.block 2 (.loop f11l1))) (.seq f11r27 (.seq f11r28 .ret))))))))))
abbrev f11 : Pfn := ⟨3, 154, [.tmp 6], f11b⟩
def f11K : Array (List Nat) := #[[0, 1, 2], [0, 1, 2, 25], [6], [0, 2, 7, 8, 9], [0, 2, 7, 8, 44], [6], [0, 2, 7, 8, 10], [0, 2, 7, 8, 10, 11], [0, 2, 7, 8, 10, 11, 12], [0, 2, 7, 8, 10, 11, 12, 61], [0, 2, 7, 8, 10, 11, 12], [0, 2, 7, 8, 10, 11, 12, 13], [0, 2, 7, 8, 10, 11, 12, 13, 14, 15], [0, 2, 7, 8, 10, 11, 12, 13, 14, 96], [6], [0, 2, 7, 8, 10, 11, 12, 13, 14, 101], [0, 2, 7, 8, 10, 11, 12, 13, 14], [0, 2, 7, 8, 10, 11, 12, 14], [0, 2, 7, 8, 10, 11, 12], [0, 2, 7, 8, 10, 11, 12, 113], [6], [0, 7, 8, 10, 115, 116], [0, 7, 8, 10, 115, 116, 117], [0, 7, 8, 10, 16, 115, 116], [0, 7, 8, 10, 16, 115, 116, 123], [0, 7, 8, 10, 115, 116], [0, 7, 8, 10, 115, 116], [0, 7, 17, 18], [6]]
def f11H : Array (List Nat) := #[[], [], [], [], [], [7], [], [], [], [], [], [], [], [], [7, 14, 47], [], [], [], [14], [], [7, 47], [], [], [], [], [], [], [47], [7]]
def f11A : Ann := ⟨fun r => f11K.getD r [], fun r => f11H.getD r [], fun r i => ([] : List (Nat × Nat)).contains (r, i)⟩
theorem f11C : compF Go.Proofs.Try.prog f11A 11 = some f11 := by kernel_rfl

/-- switchboard/switchboardlaw22.MoveWrong -/
abbrev f12o0 : List (Nat × Pop) := [
  (0, ⟨(some 8), .mv (.c (.t (.b false))), none⟩)]
abbrev f12r0 : Pc := .reg f12o0 [0, 1, 2, 3] []
abbrev f12o1 : List (Nat × Pop) := [
  (0, ⟨(some 27), .mv (.tmp 0), none⟩),
  (1, ⟨(some 28), .bin .eql (.tmp 27) (.c (.t (.s []))), none⟩),
  (2, ⟨(some 29), .mv (.tmp 28), none⟩),
  (3, ⟨(some 30), .mv (.tmp 0), (some (29, false))⟩),
  (4, ⟨(some 31), .lenS (.tmp 30), (some (29, false))⟩),
  (5, ⟨(some 32), .bin .gtr (.tmp 31) (.c (.t (.i .i64 300))), (some (29, false))⟩),
  (6, ⟨(some 33), .pick (.tmp 29) (.c (.t (.b true))) (.tmp 32), none⟩)]
abbrev f12r1 : Pc := .reg f12o1 [0, 1, 2, 3, 33] []
abbrev f12o2 : List (Nat × Pop) := [
  (0, ⟨(some 34), .call 28 [], none⟩),
  (1, ⟨(some 8), .mv (.tmp 34), none⟩)]
abbrev f12r2 : Pc := .reg f12o2 [8] []
abbrev f12o3 : List (Nat × Pop) := [
  (0, ⟨(some 35), .mv (.tmp 0), none⟩),
  (1, ⟨(some 36), .sbs 5 (.tmp 35), none⟩),
  (2, ⟨(some 9), .mv (.tmp 36), none⟩)]
abbrev f12r3 : Pc := .reg f12o3 [0, 1, 2, 3, 9] []
abbrev f12o4 : List (Nat × Pop) := [
  (0, ⟨(some 37), .mv (.tmp 9), none⟩),
  (1, ⟨(some 38), .mv (.tmp 2), none⟩),
  (2, ⟨(some 39), .cvi .i64 (.tmp 38), none⟩),
  (3, ⟨(some 40), .mv (.tmp 9), none⟩),
  (4, ⟨(some 41), .lenL (.tmp 40), none⟩),
  (5, ⟨(some 42), .bin .rem (.tmp 39) (.tmp 41), none⟩),
  (6, ⟨(some 43), .ixS 1 (.tmp 37) (.tmp 42), none⟩),
  (7, ⟨(some 44), .load false 1 (.tmp 43), none⟩),
  (8, ⟨(some 45), .mv (.tmp 3), none⟩),
  (9, ⟨(some 46), .bin .rem (.tmp 45) (.c (.t (.i .u8 8))), none⟩),
  (10, ⟨(some 47), .bin .shl (.c (.t (.i .u8 1))) (.tmp 46), none⟩),
  (11, ⟨(some 48), .bin .xor (.tmp 44) (.tmp 47), none⟩),
  (12, ⟨(some 49), .ixS 1 (.tmp 37) (.tmp 42), none⟩),
  (13, ⟨none, .store 1 (.tmp 49) (.tmp 48), none⟩)]
abbrev f12r4 : Pc := .reg f12o4 [0, 1, 9] []
abbrev f12o5 : List (Nat × Pop) := [
  (0, ⟨(some 50), .mv (.tmp 1), none⟩),
  (1, ⟨(some 51), .bin .rem (.tmp 50) (.c (.t (.i .u8 64))), none⟩),
  (2, ⟨(some 52), .cvi .i64 (.tmp 51), none⟩),
  (3, ⟨(some 53), .bin .add (.c (.t (.i .i64 1))) (.tmp 52), none⟩),
  (4, ⟨(some 10), .mv (.tmp 53), none⟩)]
abbrev f12r5 : Pc := .reg f12o5 [0, 9, 10] []
abbrev f12o6 : List (Nat × Pop) := [
  (0, ⟨(some 55), .call 39 [], none⟩),
  (1, ⟨(some 56), .mv (.tmp 0), none⟩),
  (2, ⟨(some 57), .mv (.tmp 10), none⟩),
  (3, ⟨(some 58), .call 29 [(.tmp 55), (.c (.t (.i .i64 0))), (.c (.t (.i .i64 1))), (.c (.t (.i .i64 3))), (.tmp 56), (.tmp 57)], none⟩),
  (4, ⟨(some 54), .mv (.tmp 58), none⟩),
  (5, ⟨(some 59), .ext 0 (.tmp 54), none⟩),
  (6, ⟨(some 60), .ext 1 (.tmp 54), none⟩),
  (7, ⟨(some 61), .ext 2 (.tmp 54), none⟩),
  (8, ⟨(some 11), .alloc 48 [(.t (.i .i64 0)), (.t (.i .i64 0)), (.t (.i .i64 0)), (.t (.i .i64 0)), (.t (.i .i64 0)), .nl, .nl], none⟩),
  (9, ⟨none, .store 7 (.tmp 11) (.tmp 59), none⟩),
  (10, ⟨(some 12), .mv (.tmp 60), none⟩),
  (11, ⟨(some 13), .mv (.tmp 61), none⟩)]
abbrev f12r6 : Pc := .reg f12o6 [9, 10, 11, 12, 13] []
abbrev f12o7 : List (Nat × Pop) := [
  (0, ⟨(some 63), .callq 39 [], none⟩),
  (1, ⟨(some 64), .mv (.tmp 9), none⟩),
  (2, ⟨(some 65), .cvbs (.tmp 64), none⟩),
  (3, ⟨(some 66), .mv (.tmp 10), none⟩),
  (4, ⟨(some 67), .callq 29 [(.tmp 63), (.c (.t (.i .i64 0))), (.c (.t (.i .i64 1))), (.c (.t (.i .i64 3))), (.tmp 65), (.tmp 66)], none⟩),
  (5, ⟨(some 62), .mv (.tmp 67), none⟩),
  (6, ⟨(some 68), .ext 0 (.tmp 62), none⟩),
  (7, ⟨(some 69), .ext 1 (.tmp 62), none⟩),
  (8, ⟨(some 70), .ext 2 (.tmp 62), none⟩),
  (9, ⟨(some 14), .alloc 48 [(.t (.i .i64 0)), (.t (.i .i64 0)), (.t (.i .i64 0)), (.t (.i .i64 0)), (.t (.i .i64 0)), .nl, .nl], none⟩),
  (10, ⟨none, .store 7 (.tmp 14) (.tmp 68), none⟩),
  (11, ⟨(some 15), .mv (.tmp 69), none⟩),
  (12, ⟨(some 16), .mv (.tmp 70), none⟩)]
abbrev f12r7 : Pc := .reg f12o7 [11, 12, 13, 15, 16] [14, 36]
abbrev f12o8 : List (Nat × Pop) := [
  (0, ⟨(some 71), .mv (.tmp 13), none⟩),
  (1, ⟨(some 72), .bin .neq (.tmp 71) (.c (.t (.i .i64 0))), none⟩),
  (2, ⟨(some 73), .mv (.tmp 72), none⟩),
  (3, ⟨(some 74), .mv (.tmp 16), (some (73, false))⟩),
  (4, ⟨(some 75), .bin .neq (.tmp 74) (.c (.t (.i .i64 0))), (some (73, false))⟩),
  (5, ⟨(some 76), .pick (.tmp 73) (.c (.t (.b true))) (.tmp 75), none⟩),
  (6, ⟨(some 77), .mv (.tmp 76), none⟩),
  (7, ⟨(some 78), .mv (.tmp 12), (some (77, false))⟩),
  (8, ⟨(some 79), .lenL (.tmp 78), (some (77, false))⟩),
  (9, ⟨(some 80), .mv (.tmp 15), (some (77, false))⟩),
  (10, ⟨(some 81), .lenL (.tmp 80), (some (77, false))⟩),
  (11, ⟨(some 82), .bin .neq (.tmp 79) (.tmp 81), (some (77, false))⟩),
  (12, ⟨(some 83), .pick (.tmp 77) (.c (.t (.b true))) (.tmp 82), none⟩),
  (13, ⟨(some 84), .mv (.tmp 83), none⟩),
  (14, ⟨(some 85), .mv (.tmp 12), (some (84, false))⟩),
  (15, ⟨(some 86), .lenL (.tmp 85), (some (84, false))⟩),
  (16, ⟨(some 87), .bin .eql (.tmp 86) (.c (.t (.i .i64 0))), (some (84, false))⟩),
  (17, ⟨(some 88), .pick (.tmp 84) (.c (.t (.b true))) (.tmp 87), none⟩)]
abbrev f12r8 : Pc := .reg f12o8 [11, 15, 88] []
abbrev f12o9 : List (Nat × Pop) := [
  (0, ⟨(some 8), .mv (.c (.t (.b false))), none⟩)]
abbrev f12r9 : Pc := .reg f12o9 [8] [11]
abbrev f12o10 : List (Nat × Pop) := [
  (0, ⟨(some 17), .mv (.c (.t (.i .i64 0))), none⟩)]
abbrev f12r10 : Pc := .reg f12o10 [11, 15, 17] []
abbrev f12o11 : List (Nat × Pop) := [
  (0, ⟨(some 89), .mv (.tmp 15), none⟩),
  (1, ⟨(some 90), .lenL (.tmp 89), none⟩),
  (2, ⟨(some 91), .mv (.c (.t (.i .i64 0))), none⟩)]
abbrev f12r11 : Pc := .reg f12o11 [11, 15, 17, 89, 90, 91] []
abbrev f12o12 : List (Nat × Pop) := [
  (0, ⟨(some 92), .bin .lss (.tmp 91) (.tmp 90), none⟩)]
abbrev f12r12 : Pc := .reg f12o12 [11, 15, 17, 89, 90, 91, 92] []
abbrev f12o13 : List (Nat × Pop) := [
  (0, ⟨(some 93), .mv (.tmp 91), none⟩),
  (1, ⟨(some 94), .ixS 1 (.tmp 89) (.tmp 91), none⟩),
  (2, ⟨(some 95), .load false 1 (.tmp 94), none⟩),
  (3, ⟨(some 18), .mv (.tmp 93), none⟩),
  (4, ⟨(some 19), .mv (.tmp 95), none⟩)]
abbrev f12r13 : Pc := .reg f12o13 [11, 15, 18, 19, 89, 90, 91] []
abbrev f12o14 : List (Nat × Pop) := [
  (0, ⟨(some 97), .load true 7 (.tmp 11), none⟩),
  (1, ⟨(some 98), .mv (.tmp 18), none⟩),
  (2, ⟨(some 99), .mv (.tmp 19), none⟩),
  (3, ⟨(some 100), .call 35 [(.tmp 97), (.tmp 98), (.tmp 99)], none⟩),
  (4, ⟨(some 96), .mv (.tmp 100), none⟩),
  (5, ⟨(some 101), .ext 0 (.tmp 96), none⟩),
  (6, ⟨(some 102), .ext 1 (.tmp 96), none⟩),
  (7, ⟨(some 20), .alloc 48 [(.t (.i .i64 0)), (.t (.i .i64 0)), (.t (.i .i64 0)), (.t (.i .i64 0)), (.t (.i .i64 0)), .nl, .nl], none⟩),
  (8, ⟨none, .store 7 (.tmp 20) (.tmp 101), none⟩),
  (9, ⟨(some 21), .mv (.tmp 102), none⟩)]
abbrev f12r14 : Pc := .reg f12o14 [11, 15, 18, 20, 21, 89, 90, 91] []
abbrev f12o15 : List (Nat × Pop) := [
  (0, ⟨(some 103), .mv (.tmp 21), none⟩),
  (1, ⟨(some 104), .bin .neq (.tmp 103) (.c (.t (.i .i64 0))), none⟩),
  (2, ⟨(some 105), .mv (.tmp 104), none⟩),
  (3, ⟨(some 106), .mv (.tmp 18), (some (105, true))⟩),
  (4, ⟨(some 107), .mv (.tmp 15), (some (105, true))⟩),
  (5, ⟨(some 108), .lenL (.tmp 107), (some (105, true))⟩),
  (6, ⟨(some 109), .bin .sub (.tmp 108) (.c (.t (.i .i64 1))), (some (105, true))⟩),
  (7, ⟨(some 110), .bin .lss (.tmp 106) (.tmp 109), (some (105, true))⟩),
  (8, ⟨(some 111), .pick (.tmp 105) (.tmp 110) (.c (.t (.b false))), none⟩)]
abbrev f12r15 : Pc := .reg f12o15 [11, 15, 20, 21, 89, 90, 91, 111] []
abbrev f12o16 : List (Nat × Pop) := [
  (0, ⟨(some 8), .mv (.c (.t (.b false))), none⟩)]
abbrev f12r16 : Pc := .reg f12o16 [8] [11, 20]
abbrev f12o17 : List (Nat × Pop) := [
  (0, ⟨(some 112), .load true 7 (.tmp 20), none⟩),
  (1, ⟨(some 113), .mv (.tmp 21), none⟩),
  (2, ⟨none, .store 7 (.tmp 11) (.tmp 112), none⟩),
  (3, ⟨(some 17), .mv (.tmp 113), none⟩)]
abbrev f12r17 : Pc := .reg f12o17 [11, 15, 17, 89, 90, 91] [20]
abbrev f12o18 : List (Nat × Pop) := [
  (0, ⟨(some 114), .bin .add (.tmp 91) (.c (.t (.i .i64 1))), none⟩),
  (1, ⟨(some 91), .mv (.tmp 114), none⟩)]
abbrev f12r18 : Pc := .reg f12o18 [11, 15, 17, 89, 90, 91] []
def f12l0 : Pc := (.seq f12r12 (.seq (.cond (.tmp 92) .skip (.exit 0)) (.seq (.block 1 (.seq f12r13 (.seq f12r14 (.seq (.seq f12r15 (.cond (.tmp 111) (.seq f12r16 .ret) .skip)) f12r17)))) f12r18)))
theorem f12l0e (C : Cfg) (s : St) : evL C f12l0 s = evL C (.seq f12r12 (.seq (.cond (.tmp 92) .skip (.exit 0)) (.seq (.block 1 (.seq f12r13 (.seq f12r14 (.seq (.seq f12r15 (.cond (.tmp 111) (.seq f12r16 .ret) .skip)) f12r17)))) f12r18))) s := rfl
abbrev f12o19 : List (Nat × Pop) := [
  (0, ⟨(some 116), .load true 7 (.tmp 11), none⟩),
  (1, ⟨(some 117), .callq 39 [], none⟩),
  (2, ⟨(some 118), .callq 40 [(.tmp 116), (.tmp 117)], none⟩),
  (3, ⟨(some 115), .mv (.tmp 118), none⟩),
  (4, ⟨(some 119), .ext 0 (.tmp 115), none⟩),
  (5, ⟨(some 120), .ext 1 (.tmp 115), none⟩),
  (6, ⟨(some 121), .ext 2 (.tmp 115), none⟩),
  (7, ⟨(some 22), .alloc 48 [(.t (.i .i64 0)), (.t (.i .i64 0)), (.t (.i .i64 0)), (.t (.i .i64 0)), (.t (.i .i64 0)), .nl, .nl], none⟩),
  (8, ⟨(some 23), .alloc 24 [(.t (.i .i64 0)), .nl], none⟩),
  (9, ⟨none, .store 7 (.tmp 22) (.tmp 119), none⟩),
  (10, ⟨none, .store 2 (.tmp 23) (.tmp 120), none⟩),
  (11, ⟨(some 24), .mv (.tmp 121), none⟩)]
abbrev f12r19 : Pc := .reg f12o19 [11, 17, 23, 24] [22]
abbrev f12o20 : List (Nat × Pop) := [
  (0, ⟨(some 123), .load true 7 (.tmp 11), none⟩),
  (1, ⟨(some 124), .call 37 [(.tmp 123)], none⟩),
  (2, ⟨(some 122), .mv (.tmp 124), none⟩),
  (3, ⟨(some 125), .ext 0 (.tmp 122), none⟩),
  (4, ⟨(some 126), .ext 1 (.tmp 122), none⟩),
  (5, ⟨(some 25), .mv (.tmp 125), none⟩),
  (6, ⟨(some 26), .mv (.tmp 126), none⟩)]
abbrev f12r20 : Pc := .reg f12o20 [11, 17, 23, 24, 26] []
abbrev f12o21 : List (Nat × Pop) := [
  (0, ⟨(some 127), .mv (.tmp 17), none⟩),
  (1, ⟨(some 128), .bin .eql (.tmp 127) (.c (.t (.i .i64 9))), none⟩),
  (2, ⟨(some 129), .mv (.tmp 128), none⟩),
  (3, ⟨(some 130), .fad 3 (.tmp 11), (some (129, true))⟩),
  (4, ⟨(some 131), .load false 1 (.tmp 130), (some (129, true))⟩),
  (5, ⟨(some 132), .bin .eql (.tmp 131) (.c (.t (.i .i64 4))), (some (129, true))⟩),
  (6, ⟨(some 133), .pick (.tmp 129) (.tmp 132) (.c (.t (.b false))), none⟩),
  (7, ⟨(some 134), .mv (.tmp 133), none⟩),
  (8, ⟨(some 135), .mv (.tmp 24), (some (134, true))⟩),
  (9, ⟨(some 136), .bin .eql (.tmp 135) (.c (.t (.i .i64 1))), (some (134, true))⟩),
  (10, ⟨(some 137), .pick (.tmp 134) (.tmp 136) (.c (.t (.b false))), none⟩),
  (11, ⟨(some 138), .mv (.tmp 137), none⟩),
  (12, ⟨(some 139), .fad 0 (.tmp 23), (some (138, true))⟩),
  (13, ⟨(some 140), .load false 1 (.tmp 139), (some (138, true))⟩),
  (14, ⟨(some 141), .bin .eql (.tmp 140) (.c (.t (.i .i64 0))), (some (138, true))⟩),
  (15, ⟨(some 142), .pick (.tmp 138) (.tmp 141) (.c (.t (.b false))), none⟩),
  (16, ⟨(some 143), .mv (.tmp 142), none⟩),
  (17, ⟨(some 144), .mv (.tmp 26), (some (143, true))⟩),
  (18, ⟨(some 145), .un .not (.tmp 144), (some (143, true))⟩),
  (19, ⟨(some 146), .pick (.tmp 143) (.tmp 145) (.c (.t (.b false))), none⟩),
  (20, ⟨(some 147), .mv (.tmp 146), none⟩),
  (21, ⟨(some 148), .call 28 [], (some (147, true))⟩),
  (22, ⟨(some 149), .pick (.tmp 147) (.tmp 148) (.c (.t (.b false))), none⟩),
  (23, ⟨(some 8), .mv (.tmp 149), none⟩)]
abbrev f12r21 : Pc := .reg f12o21 [8] [11, 23]
abbrev f12b : Pc := (.seq f12r0 (.seq (.seq f12r1 (.cond (.tmp 33) (.seq f12r2 .ret) .skip)) (.seq f12r3 (.seq f12r4 (.seq f12r5 (.seq f12r6 (.seq f12r7 (.seq (.seq f12r8 (.cond (.tmp 88) (.seq f12r9 .ret) .skip)) (.seq f12r10 (.seq (.seq f12r11 (.block 0 (.loop f12l0))) (.seq f12r19 (.seq f12r20 (.seq f12r21 .ret)))))))))))))
abbrev f12 : Pfn := ⟨4, 150, [.tmp 8], f12b⟩
def f12K : Array (List Nat) := #[[0, 1, 2, 3], [0, 1, 2, 3, 33], [8], [0, 1, 2, 3, 9], [0, 1, 9], [0, 9, 10], [9, 10, 11, 12, 13], [11, 12, 13, 15, 16], [11, 15, 88], [8], [11, 15, 17], [11, 15, 17, 89, 90, 91], [11, 15, 17, 89, 90, 91, 92], [11, 15, 18, 19, 89, 90, 91], [11, 15, 18, 20, 21, 89, 90, 91], [11, 15, 20, 21, 89, 90, 91, 111], [8], [11, 15, 17, 89, 90, 91], [11, 15, 17, 89, 90, 91], [11, 17, 23, 24], [11, 17, 23, 24, 26], [8]]
def f12H : Array (List Nat) := #[[], [], [], [], [], [], [], [14, 36], [], [11], [], [], [], [], [], [], [11, 20], [20], [], [22], [], [11, 23]]
def f12A : Ann := ⟨fun r => f12K.getD r [], fun r => f12H.getD r [], fun r i => ([] : List (Nat × Nat)).contains (r, i)⟩
theorem f12C : compF Go.Proofs.Try.prog f12A 12 = some f12 := by kernel_rfl

/-- switchboard/switchboardlaw22.MoveMany -/
abbrev f13o0 : List (Nat × Pop) := [
  (0, ⟨(some 4), .mv (.c (.t (.b false))), none⟩)]
abbrev f13r0 : Pc := .reg f13o0 [0, 1] []
abbrev f13o1 : List (Nat × Pop) := [
  (0, ⟨(some 12), .mv (.tmp 1), none⟩),
  (1, ⟨(some 13), .bin .rem (.tmp 12) (.c (.t (.i .u8 64))), none⟩),
  (2, ⟨(some 14), .cvi .i64 (.tmp 13), none⟩),
  (3, ⟨(some 15), .bin .add (.c (.t (.i .i64 1))) (.tmp 14), none⟩),
  (4, ⟨(some 5), .mv (.tmp 15), none⟩)]
abbrev f13r1 : Pc := .reg f13o1 [0, 5] []
abbrev f13o2 : List (Nat × Pop) := [
  (0, ⟨(some 16), .mv (.tmp 0), none⟩),
  (1, ⟨(some 17), .bin .eql (.tmp 16) (.c (.t (.s []))), none⟩),
  (2, ⟨(some 18), .mv (.tmp 17), none⟩),
  (3, ⟨(some 19), .mv (.tmp 0), (some (18, false))⟩),
  (4, ⟨(some 20), .lenS (.tmp 19), (some (18, false))⟩),
  (5, ⟨(some 21), .bin .gtr (.tmp 20) (.c (.t (.i .i64 300))), (some (18, false))⟩),
  (6, ⟨(some 22), .pick (.tmp 18) (.c (.t (.b true))) (.tmp 21), none⟩)]
abbrev f13r2 : Pc := .reg f13o2 [0, 5, 22] []
abbrev f13o3 : List (Nat × Pop) := [
  (0, ⟨(some 23), .call 28 [], none⟩),
  (1, ⟨(some 4), .mv (.tmp 23), none⟩)]
abbrev f13r3 : Pc := .reg f13o3 [4] []
abbrev f13o4 : List (Nat × Pop) := [
  (0, ⟨(some 25), .call 39 [], none⟩),
  (1, ⟨(some 26), .mv (.tmp 0), none⟩),
  (2, ⟨(some 27), .mv (.tmp 5), none⟩),
  (3, ⟨(some 28), .call 29 [(.tmp 25), (.c (.t (.i .i64 0))), (.c (.t (.i .i64 1))), (.c (.t (.i .i64 2))), (.tmp 26), (.tmp 27)], none⟩),
  (4, ⟨(some 24), .mv (.tmp 28), none⟩),
  (5, ⟨(some 29), .ext 0 (.tmp 24), none⟩),
  (6, ⟨(some 30), .ext 1 (.tmp 24), none⟩),
  (7, ⟨(some 31), .ext 2 (.tmp 24), none⟩),
  (8, ⟨(some 6), .alloc 48 [(.t (.i .i64 0)), (.t (.i .i64 0)), (.t (.i .i64 0)), (.t (.i .i64 0)), (.t (.i .i64 0)), .nl, .nl], none⟩),
  (9, ⟨none, .store 7 (.tmp 6) (.tmp 29), none⟩),
  (10, ⟨(some 7), .mv (.tmp 30), none⟩),
  (11, ⟨(some 8), .mv (.tmp 31), none⟩)]
abbrev f13r4 : Pc := .reg f13o4 [0, 5, 6, 7, 8] []
abbrev f13o5 : List (Nat × Pop) := [
  (0, ⟨(some 9), .mv (.c (.t (.s []))), none⟩)]
abbrev f13r5 : Pc := .reg f13o5 [0, 5, 6, 7, 8, 9] []
abbrev f13o6 : List (Nat × Pop) := [
  (0, ⟨(some 32), .mv (.tmp 7), none⟩),
  (1, ⟨(some 33), .lenL (.tmp 32), none⟩),
  (2, ⟨(some 34), .mv (.c (.t (.i .i64 0))), none⟩)]
abbrev f13r6 : Pc := .reg f13o6 [0, 5, 6, 7, 8, 9, 32, 33, 34] []
abbrev f13o7 : List (Nat × Pop) := [
  (0, ⟨(some 35), .bin .lss (.tmp 34) (.tmp 33), none⟩)]
abbrev f13r7 : Pc := .reg f13o7 [0, 5, 6, 7, 8, 9, 32, 33, 34, 35] []
abbrev f13o8 : List (Nat × Pop) := [
  (0, ⟨(some 36), .mv (.tmp 34), none⟩),
  (1, ⟨(some 37), .ixS 1 (.tmp 32) (.tmp 34), none⟩),
  (2, ⟨(some 38), .load false 1 (.tmp 37), none⟩),
  (3, ⟨(some 10), .mv (.tmp 36), none⟩),
  (4, ⟨(some 11), .mv (.tmp 38), none⟩)]
abbrev f13r8 : Pc := .reg f13o8 [0, 5, 6, 7, 8, 9, 10, 11, 32, 33, 34] []
abbrev f13o9 : List (Nat × Pop) := [
  (0, ⟨(some 39), .mv (.tmp 11), none⟩),
  (1, ⟨(some 40), .lenS (.tmp 39), none⟩),
  (2, ⟨(some 41), .mv (.tmp 5), none⟩),
  (3, ⟨(some 42), .bin .gtr (.tmp 40) (.tmp 41), none⟩),
  (4, ⟨(some 43), .mv (.tmp 42), none⟩),
  (5, ⟨(some 44), .mv (.tmp 11), (some (43, false))⟩),
  (6, ⟨(some 45), .bin .eql (.tmp 44) (.c (.t (.s []))), (some (43, false))⟩),
  (7, ⟨(some 46), .pick (.tmp 43) (.c (.t (.b true))) (.tmp 45), none⟩),
  (8, ⟨(some 47), .mv (.tmp 46), none⟩),
  (9, ⟨(some 48), .mv (.tmp 10), (some (47, false))⟩),
  (10, ⟨(some 49), .mv (.tmp 7), (some (47, false))⟩),
  (11, ⟨(some 50), .lenL (.tmp 49), (some (47, false))⟩),
  (12, ⟨(some 51), .bin .sub (.tmp 50) (.c (.t (.i .i64 1))), (some (47, false))⟩),
  (13, ⟨(some 52), .bin .lss (.tmp 48) (.tmp 51), (some (47, false))⟩),
  (14, ⟨(some 53), .mv (.tmp 52), (some (47, false))⟩),
  (15, ⟨(some 54), .mv (.tmp 11), (some (53, true))⟩),
  (16, ⟨(some 55), .lenS (.tmp 54), (some (53, true))⟩),
  (17, ⟨(some 56), .mv (.tmp 5), (some (53, true))⟩),
  (18, ⟨(some 57), .bin .neq (.tmp 55) (.tmp 56), (some (53, true))⟩),
  (19, ⟨(some 58), .pick (.tmp 53) (.tmp 57) (.c (.t (.b false))), (some (47, false))⟩),
  (20, ⟨(some 59), .pick (.tmp 47) (.c (.t (.b true))) (.tmp 58), none⟩)]
abbrev f13r9 : Pc := .reg f13o9 [0, 5, 6, 7, 8, 9, 11, 32, 33, 34, 59] []
abbrev f13o10 : List (Nat × Pop) := [
  (0, ⟨(some 4), .mv (.c (.t (.b false))), none⟩)]
abbrev f13r10 : Pc := .reg f13o10 [4] [6]
abbrev f13o11 : List (Nat × Pop) := [
  (0, ⟨(some 60), .mv (.tmp 9), none⟩),
  (1, ⟨(some 61), .mv (.tmp 11), none⟩),
  (2, ⟨(some 62), .bin .add (.tmp 60) (.tmp 61), none⟩),
  (3, ⟨(some 9), .mv (.tmp 62), none⟩)]
abbrev f13r11 : Pc := .reg f13o11 [0, 5, 6, 7, 8, 9, 32, 33, 34] []
abbrev f13o12 : List (Nat × Pop) := [
  (0, ⟨(some 63), .bin .add (.tmp 34) (.c (.t (.i .i64 1))), none⟩),
  (1, ⟨(some 34), .mv (.tmp 63), none⟩)]
abbrev f13r12 : Pc := .reg f13o12 [0, 5, 6, 7, 8, 9, 32, 33, 34] []
def f13l0 : Pc := (.seq f13r7 (.seq (.cond (.tmp 35) .skip (.exit 0)) (.seq (.block 1 (.seq f13r8 (.seq (.seq f13r9 (.cond (.tmp 59) (.seq f13r10 .ret) .skip)) f13r11))) f13r12)))
theorem f13l0e (C : Cfg) (s : St) : evL C f13l0 s = evL C (.seq f13r7 (.seq (.cond (.tmp 35) .skip (.exit 0)) (.seq (.block 1 (.seq f13r8 (.seq (.seq f13r9 (.cond (.tmp 59) (.seq f13r10 .ret) .skip)) f13r11))) f13r12))) s := rfl
abbrev f13o13 : List (Nat × Pop) := [
  (0, ⟨(some 64), .mv (.tmp 8), none⟩),
  (1, ⟨(some 65), .bin .eql (.tmp 64) (.c (.t (.i .i64 0))), none⟩),
  (2, ⟨(some 66), .mv (.tmp 65), none⟩),
  (3, ⟨(some 67), .mv (.tmp 9), (some (66, true))⟩),
  (4, ⟨(some 68), .mv (.tmp 0), (some (66, true))⟩),
  (5, ⟨(some 69), .bin .eql (.tmp 67) (.tmp 68), (some (66, true))⟩),
  (6, ⟨(some 70), .pick (.tmp 66) (.tmp 69) (.c (.t (.b false))), none⟩),
  (7, ⟨(some 71), .mv (.tmp 70), none⟩),
  (8, ⟨(some 72), .fad 5 (.tmp 6), (some (71, true))⟩),
  (9, ⟨(some 73), .load false 1 (.tmp 72), (some (71, true))⟩),
  (10, ⟨(some 74), .lenL (.tmp 73), (some (71, true))⟩),
  (11, ⟨(some 75), .mv (.tmp 7), (some (71, true))⟩),
  (12, ⟨(some 76), .lenL (.tmp 75), (some (71, true))⟩),
  (13, ⟨(some 77), .bin .eql (.tmp 74) (.tmp 76), (some (71, true))⟩),
  (14, ⟨(some 78), .pick (.tmp 71) (.tmp 77) (.c (.t (.b false))), none⟩),
  (15, ⟨(some 79), .mv (.tmp 78), none⟩),
  (16, ⟨(some 80), .fad 6 (.tmp 6), (some (79, true))⟩),
  (17, ⟨(some 81), .load false 1 (.tmp 80), (some (79, true))⟩),
  (18, ⟨(some 82), .lenL (.tmp 81), (some (79, true))⟩),
  (19, ⟨(some 83), .mv (.tmp 7), (some (79, true))⟩),
  (20, ⟨(some 84), .lenL (.tmp 83), (some (79, true))⟩),
  (21, ⟨(some 85), .bin .eql (.tmp 82) (.tmp 84), (some (79, true))⟩),
  (22, ⟨(some 86), .pick (.tmp 79) (.tmp 85) (.c (.t (.b false))), none⟩),
  (23, ⟨(some 87), .mv (.tmp 86), none⟩),
  (24, ⟨(some 88), .mv (.tmp 7), (some (87, true))⟩),
  (25, ⟨(some 89), .lenL (.tmp 88), (some (87, true))⟩),
  (26, ⟨(some 90), .mv (.tmp 0), (some (87, true))⟩),
  (27, ⟨(some 91), .lenS (.tmp 90), (some (87, true))⟩),
  (28, ⟨(some 92), .mv (.tmp 5), (some (87, true))⟩),
  (29, ⟨(some 93), .bin .add (.tmp 91) (.tmp 92), (some (87, true))⟩),
  (30, ⟨(some 94), .bin .sub (.tmp 93) (.c (.t (.i .i64 1))), (some (87, true))⟩),
  (31, ⟨(some 95), .mv (.tmp 5), (some (87, true))⟩),
  (32, ⟨(some 96), .bin .quo (.tmp 94) (.tmp 95), (some (87, true))⟩),
  (33, ⟨(some 97), .bin .eql (.tmp 89) (.tmp 96), (some (87, true))⟩),
  (34, ⟨(some 98), .pick (.tmp 87) (.tmp 97) (.c (.t (.b false))), none⟩),
  (35, ⟨(some 99), .mv (.tmp 98), none⟩),
  (36, ⟨(some 100), .call 28 [], (some (99, true))⟩),
  (37, ⟨(some 101), .pick (.tmp 99) (.tmp 100) (.c (.t (.b false))), none⟩),
  (38, ⟨(some 4), .mv (.tmp 101), none⟩)]
abbrev f13r13 : Pc := .reg f13o13 [4] [6]
abbrev f13b : Pc := (.seq f13r0 (.seq f13r1 (.seq (.seq f13r2 (.cond (.tmp 22) (.seq f13r3 .ret) .skip)) (.seq f13r4 (.seq f13r5 (.seq (.seq f13r6 (.block 0 (.loop f13l0))) (.seq f13r13 .ret)))))))
abbrev f13 : Pfn := ⟨2, 102, [.tmp 4], f13b⟩
def f13K : Array (List Nat) := #[[0, 1], [0, 5], [0, 5, 22], [4], [0, 5, 6, 7, 8], [0, 5, 6, 7, 8, 9], [0, 5, 6, 7, 8, 9, 32, 33, 34], [0, 5, 6, 7, 8, 9, 32, 33, 34, 35], [0, 5, 6, 7, 8, 9, 10, 11, 32, 33, 34], [0, 5, 6, 7, 8, 9, 11, 32, 33, 34, 59], [4], [0, 5, 6, 7, 8, 9, 32, 33, 34], [0, 5, 6, 7, 8, 9, 32, 33, 34], [4]]
def f13H : Array (List Nat) := #[[], [], [], [], [], [], [], [], [], [], [6], [], [], [6]]
def f13A : Ann := ⟨fun r => f13K.getD r [], fun r => f13H.getD r [], fun r i => ([] : List (Nat × Nat)).contains (r, i)⟩
theorem f13C : compF Go.Proofs.Try.prog f13A 13 = some f13 := by kernel_rfl

/-- switchboard/switchboardlaw22.MoveEnds -/
abbrev f14o0 : List (Nat × Pop) := [
  (0, ⟨(some 2), .box 48 7 (.tmp 0), none⟩),
  (1, ⟨(some 3), .box 24 2 (.tmp 1), none⟩),
  (2, ⟨(some 4), .mv (.c (.t (.b false))), none⟩)]
abbrev f14r0 : Pc := .reg f14o0 [2, 3] []
abbrev f14o1 : List (Nat × Pop) := [
  (0, ⟨(some 14), .load true 7 (.tmp 2), none⟩),
  (1, ⟨(some 15), .call 34 [(.tmp 14)], none⟩),
  (2, ⟨(some 16), .un .not (.tmp 15), none⟩),
  (3, ⟨(some 17), .mv (.tmp 16), none⟩),
  (4, ⟨(some 18), .fad 1 (.tmp 3), (some (17, false))⟩),
  (5, ⟨(some 19), .load false 1 (.tmp 18), (some (17, false))⟩),
  (6, ⟨(some 20), .call 16 [(.tmp 19)], (some (17, false))⟩),
  (7, ⟨(some 21), .un .not (.tmp 20), (some (17, false))⟩),
  (8, ⟨(some 22), .pick (.tmp 17) (.c (.t (.b true))) (.tmp 21), none⟩)]
abbrev f14r1 : Pc := .reg f14o1 [2, 3, 22] []
abbrev f14o2 : List (Nat × Pop) := [
  (0, ⟨(some 23), .call 28 [], none⟩),
  (1, ⟨(some 4), .mv (.tmp 23), none⟩)]
abbrev f14r2 : Pc := .reg f14o2 [4] [2, 3]
abbrev f14o3 : List (Nat × Pop) := [
  (0, ⟨(some 25), .load true 7 (.tmp 2), none⟩),
  (1, ⟨(some 26), .load true 2 (.tmp 3), none⟩),
  (2, ⟨(some 27), .call 40 [(.tmp 25), (.tmp 26)], none⟩),
  (3, ⟨(some 24), .mv (.tmp 27), none⟩),
  (4, ⟨(some 28), .ext 0 (.tmp 24), none⟩),
  (5, ⟨(some 29), .ext 1 (.tmp 24), none⟩),
  (6, ⟨(some 30), .ext 2 (.tmp 24), none⟩),
  (7, ⟨(some 5), .alloc 48 [(.t (.i .i64 0)), (.t (.i .i64 0)), (.t (.i .i64 0)), (.t (.i .i64 0)), (.t (.i .i64 0)), .nl, .nl], none⟩),
  (8, ⟨(some 6), .alloc 24 [(.t (.i .i64 0)), .nl], none⟩),
  (9, ⟨none, .store 7 (.tmp 5) (.tmp 28), none⟩),
  (10, ⟨none, .store 2 (.tmp 6) (.tmp 29), none⟩),
  (11, ⟨(some 7), .mv (.tmp 30), none⟩)]
abbrev f14r3 : Pc := .reg f14o3 [2, 3, 5, 6, 7] []
abbrev f14o4 : List (Nat × Pop) := [
  (0, ⟨(some 32), .load true 7 (.tmp 2), none⟩),
  (1, ⟨(some 33), .call 41 [(.tmp 32)], none⟩),
  (2, ⟨(some 31), .mv (.tmp 33), none⟩),
  (3, ⟨(some 34), .ext 0 (.tmp 31), none⟩),
  (4, ⟨(some 35), .ext 1 (.tmp 31), none⟩),
  (5, ⟨(some 8), .alloc 48 [(.t (.i .i64 0)), (.t (.i .i64 0)), (.t (.i .i64 0)), (.t (.i .i64 0)), (.t (.i .i64 0)), .nl, .nl], none⟩),
  (6, ⟨none, .store 7 (.tmp 8) (.tmp 34), none⟩),
  (7, ⟨(some 9), .mv (.tmp 35), none⟩)]
abbrev f14r4 : Pc := .reg f14o4 [2, 3, 5, 6, 7, 8, 9] []
abbrev f14o5 : List (Nat × Pop) := [
  (0, ⟨(some 37), .load true 2 (.tmp 3), none⟩),
  (1, ⟨(some 38), .fad 0 (.tmp 2), none⟩),
  (2, ⟨(some 39), .load false 1 (.tmp 38), none⟩),
  (3, ⟨(some 40), .fad 2 (.tmp 2), none⟩),
  (4, ⟨(some 41), .load false 1 (.tmp 40), none⟩),
  (5, ⟨(some 42), .call 18 [(.tmp 37), (.tmp 39), (.tmp 41)], none⟩),
  (6, ⟨(some 36), .mv (.tmp 42), none⟩),
  (7, ⟨(some 43), .ext 0 (.tmp 36), none⟩),
  (8, ⟨(some 44), .ext 1 (.tmp 36), none⟩),
  (9, ⟨(some 10), .alloc 24 [(.t (.i .i64 0)), .nl], none⟩),
  (10, ⟨none, .store 2 (.tmp 10) (.tmp 43), none⟩),
  (11, ⟨(some 11), .mv (.tmp 44), none⟩)]
abbrev f14r5 : Pc := .reg f14o5 [2, 3, 5, 6, 7, 8, 9, 10, 11] []
abbrev f14o6 : List (Nat × Pop) := [
  (0, ⟨(some 45), .load true 7 (.tmp 2), none⟩),
  (1, ⟨(some 46), .load true 7 (.tmp 2), none⟩),
  (2, ⟨(some 12), .alloc 48 [(.t (.i .i64 0)), (.t (.i .i64 0)), (.t (.i .i64 0)), (.t (.i .i64 0)), (.t (.i .i64 0)), .nl, .nl], none⟩),
  (3, ⟨(some 13), .alloc 48 [(.t (.i .i64 0)), (.t (.i .i64 0)), (.t (.i .i64 0)), (.t (.i .i64 0)), (.t (.i .i64 0)), .nl, .nl], none⟩),
  (4, ⟨none, .storeD 7 (.tmp 12) (.tmp 45) [2], none⟩),
  (5, ⟨none, .store 7 (.tmp 13) (.tmp 46), none⟩)]
abbrev f14r6 : Pc := .reg f14o6 [2, 3, 5, 6, 7, 8, 9, 10, 11, 12, 13] []
abbrev f14o7 : List (Nat × Pop) := [
  (0, ⟨(some 47), .fad 3 (.tmp 12), none⟩),
  (1, ⟨none, .store 1 (.tmp 47) (.c (.t (.i .i64 3))), none⟩),
  (2, ⟨(some 48), .fad 3 (.tmp 13), none⟩),
  (3, ⟨none, .store 1 (.tmp 48) (.c (.t (.i .i64 4))), none⟩)]
abbrev f14r7 : Pc := .reg f14o7 [2, 3, 5, 6, 7, 8, 9, 10, 11, 12, 13] []
abbrev f14o8 : List (Nat × Pop) := [
  (0, ⟨(some 49), .fad 3 (.tmp 2), none⟩),
  (1, ⟨(some 50), .load false 1 (.tmp 49), none⟩),
  (2, ⟨(some 51), .bin .eql (.tmp 50) (.c (.t (.i .i64 3))), none⟩)]
abbrev f14r8 : Pc := .reg f14o8 [2, 3, 5, 6, 7, 8, 9, 10, 11, 12, 13, 51] []
abbrev f14o9 : List (Nat × Pop) := [
  (0, ⟨(some 52), .load true 7 (.tmp 2), none⟩),
  (1, ⟨none, .store 7 (.tmp 13) (.tmp 52), none⟩)]
abbrev f14r9 : Pc := .reg f14o9 [2, 3, 5, 6, 7, 8, 9, 10, 11, 12, 13] []
abbrev f14o10 : List (Nat × Pop) := [
  (0, ⟨(some 53), .load true 7 (.tmp 8), none⟩),
  (1, ⟨(some 54), .callq 32 [(.tmp 53)], none⟩),
  (2, ⟨(some 55), .load true 7 (.tmp 13), none⟩),
  (3, ⟨(some 56), .callq 32 [(.tmp 55)], none⟩),
  (4, ⟨(some 57), .callq 31 [(.tmp 54), (.tmp 56)], none⟩),
  (5, ⟨(some 58), .un .not (.tmp 57), none⟩),
  (6, ⟨(some 59), .mv (.tmp 58), none⟩),
  (7, ⟨(some 60), .mv (.tmp 9), (some (59, false))⟩),
  (8, ⟨(some 61), .bin .eql (.tmp 60) (.c (.t (.i .i64 7))), (some (59, false))⟩),
  (9, ⟨(some 62), .fad 3 (.tmp 2), (some (59, false))⟩),
  (10, ⟨(some 63), .load false 1 (.tmp 62), (some (59, false))⟩),
  (11, ⟨(some 64), .bin .eql (.tmp 63) (.c (.t (.i .i64 3))), (some (59, false))⟩),
  (12, ⟨(some 65), .beq true (.tmp 61) (.tmp 64), (some (59, false))⟩),
  (13, ⟨(some 66), .pick (.tmp 59) (.c (.t (.b true))) (.tmp 65), none⟩),
  (14, ⟨(some 67), .mv (.tmp 66), none⟩),
  (15, ⟨(some 68), .mv (.tmp 9), (some (67, false))⟩),
  (16, ⟨(some 69), .bin .neq (.tmp 68) (.c (.t (.i .i64 0))), (some (67, false))⟩),
  (17, ⟨(some 70), .mv (.tmp 69), (some (67, false))⟩),
  (18, ⟨(some 71), .mv (.tmp 9), (some (70, true))⟩),
  (19, ⟨(some 72), .bin .neq (.tmp 71) (.c (.t (.i .i64 7))), (some (70, true))⟩),
  (20, ⟨(some 73), .pick (.tmp 70) (.tmp 72) (.c (.t (.b false))), (some (67, false))⟩),
  (21, ⟨(some 74), .pick (.tmp 67) (.c (.t (.b true))) (.tmp 73), none⟩)]
abbrev f14r10 : Pc := .reg f14o10 [2, 3, 5, 6, 7, 10, 11, 12, 74] [8, 13]
abbrev f14o11 : List (Nat × Pop) := [
  (0, ⟨(some 4), .mv (.c (.t (.b false))), none⟩)]
abbrev f14r11 : Pc := .reg f14o11 [4] [2, 3, 5, 6, 10, 12]
abbrev f14o12 : List (Nat × Pop) := [
  (0, ⟨(some 75), .fad 3 (.tmp 2), none⟩),
  (1, ⟨(some 76), .load false 1 (.tmp 75), none⟩),
  (2, ⟨(some 77), .bin .neq (.tmp 76) (.c (.t (.i .i64 2))), none⟩)]
abbrev f14r12 : Pc := .reg f14o12 [2, 3, 5, 6, 7, 10, 11, 12, 77] []
abbrev f14o13 : List (Nat × Pop) := [
  (0, ⟨(some 78), .mv (.tmp 7), none⟩),
  (1, ⟨(some 79), .bin .eql (.tmp 78) (.c (.t (.i .i64 1))), none⟩),
  (2, ⟨(some 80), .mv (.tmp 79), none⟩),
  (3, ⟨(some 81), .load true 7 (.tmp 5), (some (80, true))⟩),
  (4, ⟨(some 82), .callq 32 [(.tmp 81)], (some (80, true))⟩),
  (5, ⟨(some 83), .load true 7 (.tmp 2), (some (80, true))⟩),
  (6, ⟨(some 84), .callq 32 [(.tmp 83)], (some (80, true))⟩),
  (7, ⟨(some 85), .callq 31 [(.tmp 82), (.tmp 84)], (some (80, true))⟩),
  (8, ⟨(some 86), .pick (.tmp 80) (.tmp 85) (.c (.t (.b false))), none⟩),
  (9, ⟨(some 87), .mv (.tmp 86), none⟩),
  (10, ⟨(some 88), .fad 0 (.tmp 6), (some (87, true))⟩),
  (11, ⟨(some 89), .load false 1 (.tmp 88), (some (87, true))⟩),
  (12, ⟨(some 90), .fad 0 (.tmp 3), (some (87, true))⟩),
  (13, ⟨(some 91), .load false 1 (.tmp 90), (some (87, true))⟩),
  (14, ⟨(some 92), .bin .eql (.tmp 89) (.tmp 91), (some (87, true))⟩),
  (15, ⟨(some 93), .pick (.tmp 87) (.tmp 92) (.c (.t (.b false))), none⟩),
  (16, ⟨(some 94), .mv (.tmp 93), none⟩),
  (17, ⟨(some 95), .fad 1 (.tmp 6), (some (94, true))⟩),
  (18, ⟨(some 96), .load false 1 (.tmp 95), (some (94, true))⟩),
  (19, ⟨(some 97), .fad 1 (.tmp 3), (some (94, true))⟩),
  (20, ⟨(some 98), .load false 1 (.tmp 97), (some (94, true))⟩),
  (21, ⟨(some 99), .callq 24 [(.tmp 96), (.tmp 98)], (some (94, true))⟩),
  (22, ⟨(some 100), .pick (.tmp 94) (.tmp 99) (.c (.t (.b false))), none⟩),
  (23, ⟨(some 101), .mv (.tmp 100), none⟩),
  (24, ⟨(some 102), .callq 28 [], (some (101, true))⟩),
  (25, ⟨(some 103), .pick (.tmp 101) (.tmp 102) (.c (.t (.b false))), none⟩),
  (26, ⟨(some 4), .mv (.tmp 103), none⟩)]
abbrev f14r13 : Pc := .reg f14o13 [4] [2, 3, 5, 6, 10, 12]
abbrev f14o14 : List (Nat × Pop) := [
  (0, ⟨(some 104), .mv (.tmp 11), none⟩),
  (1, ⟨(some 105), .bin .neq (.tmp 104) (.c (.t (.i .i64 0))), none⟩)]
abbrev f14r14 : Pc := .reg f14o14 [2, 3, 5, 6, 7, 10, 11, 12, 105] []
abbrev f14o15 : List (Nat × Pop) := [
  (0, ⟨(some 106), .mv (.tmp 7), none⟩),
  (1, ⟨(some 107), .mv (.tmp 11), none⟩),
  (2, ⟨(some 108), .bin .eql (.tmp 106) (.tmp 107), none⟩),
  (3, ⟨(some 109), .mv (.tmp 108), none⟩),
  (4, ⟨(some 110), .load true 7 (.tmp 5), (some (109, true))⟩),
  (5, ⟨(some 111), .callq 32 [(.tmp 110)], (some (109, true))⟩),
  (6, ⟨(some 112), .load true 7 (.tmp 2), (some (109, true))⟩),
  (7, ⟨(some 113), .callq 32 [(.tmp 112)], (some (109, true))⟩),
  (8, ⟨(some 114), .callq 31 [(.tmp 111), (.tmp 113)], (some (109, true))⟩),
  (9, ⟨(some 115), .pick (.tmp 109) (.tmp 114) (.c (.t (.b false))), none⟩),
  (10, ⟨(some 116), .mv (.tmp 115), none⟩),
  (11, ⟨(some 117), .fad 0 (.tmp 6), (some (116, true))⟩),
  (12, ⟨(some 118), .load false 1 (.tmp 117), (some (116, true))⟩),
  (13, ⟨(some 119), .fad 0 (.tmp 3), (some (116, true))⟩),
  (14, ⟨(some 120), .load false 1 (.tmp 119), (some (116, true))⟩),
  (15, ⟨(some 121), .bin .eql (.tmp 118) (.tmp 120), (some (116, true))⟩),
  (16, ⟨(some 122), .pick (.tmp 116) (.tmp 121) (.c (.t (.b false))), none⟩),
  (17, ⟨(some 123), .mv (.tmp 122), none⟩),
  (18, ⟨(some 124), .callq 28 [], (some (123, true))⟩),
  (19, ⟨(some 125), .pick (.tmp 123) (.tmp 124) (.c (.t (.b false))), none⟩),
  (20, ⟨(some 4), .mv (.tmp 125), none⟩)]
abbrev f14r15 : Pc := .reg f14o15 [4] [2, 3, 5, 6, 10, 12]
abbrev f14o16 : List (Nat × Pop) := [
  (0, ⟨(some 126), .mv (.tmp 7), none⟩),
  (1, ⟨(some 127), .bin .eql (.tmp 126) (.c (.t (.i .i64 0))), none⟩),
  (2, ⟨(some 128), .mv (.tmp 127), none⟩),
  (3, ⟨(some 129), .load true 7 (.tmp 5), (some (128, true))⟩),
  (4, ⟨(some 130), .callq 32 [(.tmp 129)], (some (128, true))⟩),
  (5, ⟨(some 131), .load true 7 (.tmp 12), (some (128, true))⟩),
  (6, ⟨(some 132), .callq 32 [(.tmp 131)], (some (128, true))⟩),
  (7, ⟨(some 133), .callq 31 [(.tmp 130), (.tmp 132)], (some (128, true))⟩),
  (8, ⟨(some 134), .pick (.tmp 128) (.tmp 133) (.c (.t (.b false))), none⟩),
  (9, ⟨(some 135), .mv (.tmp 134), none⟩),
  (10, ⟨(some 136), .fad 0 (.tmp 6), (some (135, true))⟩),
  (11, ⟨(some 137), .load false 1 (.tmp 136), (some (135, true))⟩),
  (12, ⟨(some 138), .fad 0 (.tmp 10), (some (135, true))⟩),
  (13, ⟨(some 139), .load false 1 (.tmp 138), (some (135, true))⟩),
  (14, ⟨(some 140), .bin .eql (.tmp 137) (.tmp 139), (some (135, true))⟩),
  (15, ⟨(some 141), .pick (.tmp 135) (.tmp 140) (.c (.t (.b false))), none⟩),
  (16, ⟨(some 142), .mv (.tmp 141), none⟩),
  (17, ⟨(some 143), .fad 1 (.tmp 6), (some (142, true))⟩),
  (18, ⟨(some 144), .load false 1 (.tmp 143), (some (142, true))⟩),
  (19, ⟨(some 145), .fad 1 (.tmp 10), (some (142, true))⟩),
  (20, ⟨(some 146), .load false 1 (.tmp 145), (some (142, true))⟩),
  (21, ⟨(some 147), .callq 24 [(.tmp 144), (.tmp 146)], (some (142, true))⟩),
  (22, ⟨(some 148), .pick (.tmp 142) (.tmp 147) (.c (.t (.b false))), none⟩),
  (23, ⟨(some 149), .mv (.tmp 148), none⟩),
  (24, ⟨(some 150), .callq 28 [], (some (149, true))⟩),
  (25, ⟨(some 151), .pick (.tmp 149) (.tmp 150) (.c (.t (.b false))), none⟩),
  (26, ⟨(some 4), .mv (.tmp 151), none⟩)]
abbrev f14r16 : Pc := .reg f14o16 [4] [2, 3, 5, 6, 10, 12]
abbrev f14b : Pc := (.seq f14r0 (.seq (.seq f14r1 (.cond (.tmp 22) (.seq f14r2 .ret) .skip)) (.seq f14r3 (.seq f14r4 (.seq f14r5 (.seq f14r6 (.seq f14r7 (.seq (.seq f14r8 (.cond (.tmp 51) f14r9 .skip)) (.seq (.seq f14r10 (.cond (.tmp 74) (.seq f14r11 .ret) .skip)) (.seq (.seq f14r12 (.cond (.tmp 77) (.seq f14r13 .ret) .skip)) (.seq (.seq f14r14 (.cond (.tmp 105) (.seq f14r15 .ret) .skip)) (.seq f14r16 .ret))))))))))))
abbrev f14 : Pfn := ⟨2, 152, [.tmp 4], f14b⟩
def f14K : Array (List Nat) := #[[2, 3], [2, 3, 22], [4], [2, 3, 5, 6, 7], [2, 3, 5, 6, 7, 8, 9], [2, 3, 5, 6, 7, 8, 9, 10, 11], [2, 3, 5, 6, 7, 8, 9, 10, 11, 12, 13], [2, 3, 5, 6, 7, 8, 9, 10, 11, 12, 13], [2, 3, 5, 6, 7, 8, 9, 10, 11, 12, 13, 51], [2, 3, 5, 6, 7, 8, 9, 10, 11, 12, 13], [2, 3, 5, 6, 7, 10, 11, 12, 74], [4], [2, 3, 5, 6, 7, 10, 11, 12, 77], [4], [2, 3, 5, 6, 7, 10, 11, 12, 105], [4], [4]]
def f14H : Array (List Nat) := #[[], [], [2, 3], [], [], [], [], [], [], [], [8, 13], [2, 3, 5, 6, 10, 12], [], [2, 3, 5, 6, 10, 12], [], [2, 3, 5, 6, 10, 12], [2, 3, 5, 6, 10, 12]]
def f14A : Ann := ⟨fun r => f14K.getD r [], fun r => f14H.getD r [], fun r i => ([] : List (Nat × Nat)).contains (r, i)⟩
theorem f14C : compF Go.Proofs.Try.prog f14A 14 = some f14 := by kernel_rfl

/-- switchboard/switchboardlaw22.MoveSteps -/
abbrev f15o0 : List (Nat × Pop) := [
  (0, ⟨(some 5), .box 24 2 (.tmp 0), none⟩),
  (1, ⟨(some 10), .mv (.c (.t (.b false))), none⟩)]
abbrev f15r0 : Pc := .reg f15o0 [1, 2, 3, 4, 5] []
abbrev f15o1 : List (Nat × Pop) := [
  (0, ⟨(some 26), .fad 1 (.tmp 5), none⟩),
  (1, ⟨(some 27), .load false 1 (.tmp 26), none⟩),
  (2, ⟨(some 28), .call 16 [(.tmp 27)], none⟩),
  (3, ⟨(some 29), .un .not (.tmp 28), none⟩),
  (4, ⟨(some 30), .mv (.tmp 29), none⟩),
  (5, ⟨(some 31), .mv (.tmp 4), (some (30, false))⟩),
  (6, ⟨(some 32), .lenS (.tmp 31), (some (30, false))⟩),
  (7, ⟨(some 33), .bin .gtr (.tmp 32) (.c (.t (.i .i64 300))), (some (30, false))⟩),
  (8, ⟨(some 34), .pick (.tmp 30) (.c (.t (.b true))) (.tmp 33), none⟩),
  (9, ⟨(some 35), .mv (.tmp 34), none⟩),
  (10, ⟨(some 36), .fad 0 (.tmp 5), (some (35, false))⟩),
  (11, ⟨(some 37), .load false 1 (.tmp 36), (some (35, false))⟩),
  (12, ⟨(some 38), .bin .gtr (.tmp 37) (.c (.t (.i .i64 1073741824))), (some (35, false))⟩),
  (13, ⟨(some 39), .pick (.tmp 35) (.c (.t (.b true))) (.tmp 38), none⟩)]
abbrev f15r1 : Pc := .reg f15o1 [1, 2, 3, 4, 5, 39] []
abbrev f15o2 : List (Nat × Pop) := [
  (0, ⟨(some 40), .call 28 [], none⟩),
  (1, ⟨(some 10), .mv (.tmp 40), none⟩)]
abbrev f15r2 : Pc := .reg f15o2 [10] [5]
abbrev f15o3 : List (Nat × Pop) := [
  (0, ⟨(some 42), .load true 2 (.tmp 5), none⟩),
  (1, ⟨(some 43), .mv (.tmp 1), none⟩),
  (2, ⟨(some 44), .mv (.tmp 2), none⟩),
  (3, ⟨(some 45), .mv (.tmp 3), none⟩),
  (4, ⟨(some 46), .mv (.tmp 4), none⟩),
  (5, ⟨(some 47), .call 29 [(.tmp 42), (.tmp 43), (.tmp 44), (.tmp 45), (.tmp 46), (.c (.t (.i .i64 64)))], none⟩),
  (6, ⟨(some 41), .mv (.tmp 47), none⟩),
  (7, ⟨(some 48), .ext 0 (.tmp 41), none⟩),
  (8, ⟨(some 49), .ext 1 (.tmp 41), none⟩),
  (9, ⟨(some 50), .ext 2 (.tmp 41), none⟩),
  (10, ⟨(some 11), .alloc 48 [(.t (.i .i64 0)), (.t (.i .i64 0)), (.t (.i .i64 0)), (.t (.i .i64 0)), (.t (.i .i64 0)), .nl, .nl], none⟩),
  (11, ⟨none, .store 7 (.tmp 11) (.tmp 48), none⟩),
  (12, ⟨(some 12), .mv (.tmp 49), none⟩),
  (13, ⟨(some 13), .mv (.tmp 50), none⟩)]
abbrev f15r3 : Pc := .reg f15o3 [1, 2, 3, 4, 5, 11, 12, 13] []
abbrev f15o4 : List (Nat × Pop) := [
  (0, ⟨(some 51), .mv (.tmp 13), none⟩),
  (1, ⟨(some 52), .bin .neq (.tmp 51) (.c (.t (.i .i64 0))), none⟩)]
abbrev f15r4 : Pc := .reg f15o4 [1, 2, 3, 4, 5, 11, 12, 52] []
abbrev f15o5 : List (Nat × Pop) := [
  (0, ⟨(some 53), .mv (.tmp 12), none⟩),
  (1, ⟨(some 54), .lenL (.tmp 53), none⟩),
  (2, ⟨(some 55), .bin .eql (.tmp 54) (.c (.t (.i .i64 0))), none⟩),
  (3, ⟨(some 56), .mv (.tmp 55), none⟩),
  (4, ⟨(some 57), .fad 3 (.tmp 11), (some (56, true))⟩),
  (5, ⟨(some 58), .load false 1 (.tmp 57), (some (56, true))⟩),
  (6, ⟨(some 59), .bin .eql (.tmp 58) (.c (.t (.i .i64 0))), (some (56, true))⟩),
  (7, ⟨(some 60), .pick (.tmp 56) (.tmp 59) (.c (.t (.b false))), none⟩),
  (8, ⟨(some 61), .mv (.tmp 60), none⟩),
  (9, ⟨(some 62), .call 28 [], (some (61, true))⟩),
  (10, ⟨(some 63), .pick (.tmp 61) (.tmp 62) (.c (.t (.b false))), none⟩),
  (11, ⟨(some 10), .mv (.tmp 63), none⟩)]
abbrev f15r5 : Pc := .reg f15o5 [10] [5, 11]
abbrev f15o6 : List (Nat × Pop) := [
  (0, ⟨(some 65), .load true 7 (.tmp 11), none⟩),
  (1, ⟨(some 66), .load true 2 (.tmp 5), none⟩),
  (2, ⟨(some 67), .call 40 [(.tmp 65), (.tmp 66)], none⟩),
  (3, ⟨(some 64), .mv (.tmp 67), none⟩),
  (4, ⟨(some 68), .ext 0 (.tmp 64), none⟩),
  (5, ⟨(some 69), .ext 1 (.tmp 64), none⟩),
  (6, ⟨(some 70), .ext 2 (.tmp 64), none⟩),
  (7, ⟨(some 14), .alloc 48 [(.t (.i .i64 0)), (.t (.i .i64 0)), (.t (.i .i64 0)), (.t (.i .i64 0)), (.t (.i .i64 0)), .nl, .nl], none⟩),
  (8, ⟨(some 15), .alloc 24 [(.t (.i .i64 0)), .nl], none⟩),
  (9, ⟨none, .store 7 (.tmp 14) (.tmp 68), none⟩),
  (10, ⟨none, .store 2 (.tmp 15) (.tmp 69), none⟩),
  (11, ⟨(some 16), .mv (.tmp 70), none⟩)]
abbrev f15r6 : Pc := .reg f15o6 [1, 2, 3, 4, 5, 11, 12, 14, 15, 16] []
abbrev f15o7 : List (Nat × Pop) := [
  (0, ⟨(some 71), .mv (.tmp 16), none⟩),
  (1, ⟨(some 72), .bin .neq (.tmp 71) (.c (.t (.i .i64 1))), none⟩),
  (2, ⟨(some 73), .mv (.tmp 72), none⟩),
  (3, ⟨(some 74), .fad 3 (.tmp 14), (some (73, false))⟩),
  (4, ⟨(some 75), .load false 1 (.tmp 74), (some (73, false))⟩),
  (5, ⟨(some 76), .bin .neq (.tmp 75) (.c (.t (.i .i64 1))), (some (73, false))⟩),
  (6, ⟨(some 77), .pick (.tmp 73) (.c (.t (.b true))) (.tmp 76), none⟩),
  (7, ⟨(some 78), .mv (.tmp 77), none⟩),
  (8, ⟨(some 79), .fad 0 (.tmp 15), (some (78, false))⟩),
  (9, ⟨(some 80), .load false 1 (.tmp 79), (some (78, false))⟩),
  (10, ⟨(some 81), .fad 0 (.tmp 5), (some (78, false))⟩),
  (11, ⟨(some 82), .load false 1 (.tmp 81), (some (78, false))⟩),
  (12, ⟨(some 83), .bin .neq (.tmp 80) (.tmp 82), (some (78, false))⟩),
  (13, ⟨(some 84), .pick (.tmp 78) (.c (.t (.b true))) (.tmp 83), none⟩)]
abbrev f15r7 : Pc := .reg f15o7 [1, 2, 3, 4, 5, 11, 12, 15, 84] [14]
abbrev f15o8 : List (Nat × Pop) := [
  (0, ⟨(some 10), .mv (.c (.t (.b false))), none⟩)]
abbrev f15r8 : Pc := .reg f15o8 [10] [5, 11, 15]
abbrev f15o9 : List (Nat × Pop) := [
  (0, ⟨(some 85), .mv (.tmp 12), none⟩),
  (1, ⟨(some 86), .lenL (.tmp 85), none⟩),
  (2, ⟨(some 87), .mv (.c (.t (.i .i64 0))), none⟩)]
abbrev f15r9 : Pc := .reg f15o9 [1, 2, 3, 4, 5, 11, 15, 85, 86, 87] []
abbrev f15o10 : List (Nat × Pop) := [
  (0, ⟨(some 88), .bin .lss (.tmp 87) (.tmp 86), none⟩)]
abbrev f15r10 : Pc := .reg f15o10 [1, 2, 3, 4, 5, 11, 15, 85, 86, 87, 88] []
abbrev f15o11 : List (Nat × Pop) := [
  (0, ⟨(some 89), .mv (.tmp 87), none⟩),
  (1, ⟨(some 90), .ixS 1 (.tmp 85) (.tmp 87), none⟩),
  (2, ⟨(some 91), .load false 1 (.tmp 90), none⟩),
  (3, ⟨(some 17), .mv (.tmp 89), none⟩),
  (4, ⟨(some 18), .mv (.tmp 91), none⟩)]
abbrev f15r11 : Pc := .reg f15o11 [1, 2, 3, 4, 5, 11, 15, 17, 18, 85, 86, 87] []
abbrev f15o12 : List (Nat × Pop) := [
  (0, ⟨(some 93), .load true 7 (.tmp 11), none⟩),
  (1, ⟨(some 94), .mv (.tmp 17), none⟩),
  (2, ⟨(some 95), .mv (.tmp 18), none⟩),
  (3, ⟨(some 96), .call 35 [(.tmp 93), (.tmp 94), (.tmp 95)], none⟩),
  (4, ⟨(some 92), .mv (.tmp 96), none⟩),
  (5, ⟨(some 97), .ext 0 (.tmp 92), none⟩),
  (6, ⟨(some 98), .ext 1 (.tmp 92), none⟩),
  (7, ⟨none, .store 7 (.tmp 11) (.tmp 97), none⟩)]
abbrev f15r12 : Pc := .reg f15o12 [1, 2, 3, 4, 5, 11, 15, 85, 86, 87] []
abbrev f15o13 : List (Nat × Pop) := [
  (0, ⟨(some 99), .bin .add (.tmp 87) (.c (.t (.i .i64 1))), none⟩),
  (1, ⟨(some 87), .mv (.tmp 99), none⟩)]
abbrev f15r13 : Pc := .reg f15o13 [1, 2, 3, 4, 5, 11, 15, 85, 86, 87] []
def f15l0 : Pc := (.seq f15r10 (.seq (.cond (.tmp 88) .skip (.exit 0)) (.seq (.block 1 (.seq f15r11 f15r12)) f15r13)))
theorem f15l0e (C : Cfg) (s : St) : evL C f15l0 s = evL C (.seq f15r10 (.seq (.cond (.tmp 88) .skip (.exit 0)) (.seq (.block 1 (.seq f15r11 f15r12)) f15r13))) s := rfl
abbrev f15o14 : List (Nat × Pop) := [
  (0, ⟨(some 101), .load true 7 (.tmp 11), none⟩),
  (1, ⟨(some 102), .load true 2 (.tmp 5), none⟩),
  (2, ⟨(some 103), .call 40 [(.tmp 101), (.tmp 102)], none⟩),
  (3, ⟨(some 100), .mv (.tmp 103), none⟩),
  (4, ⟨(some 104), .ext 0 (.tmp 100), none⟩),
  (5, ⟨(some 105), .ext 1 (.tmp 100), none⟩),
  (6, ⟨(some 106), .ext 2 (.tmp 100), none⟩),
  (7, ⟨none, .store 7 (.tmp 11) (.tmp 104), none⟩),
  (8, ⟨none, .store 2 (.tmp 15) (.tmp 105), none⟩),
  (9, ⟨(some 16), .mv (.tmp 106), none⟩)]
abbrev f15r14 : Pc := .reg f15o14 [1, 2, 3, 4, 5, 11, 15, 16] []
abbrev f15o15 : List (Nat × Pop) := [
  (0, ⟨(some 108), .load true 7 (.tmp 11), none⟩),
  (1, ⟨(some 109), .load true 2 (.tmp 15), none⟩),
  (2, ⟨(some 110), .call 40 [(.tmp 108), (.tmp 109)], none⟩),
  (3, ⟨(some 107), .mv (.tmp 110), none⟩),
  (4, ⟨(some 111), .ext 0 (.tmp 107), none⟩),
  (5, ⟨(some 112), .ext 1 (.tmp 107), none⟩),
  (6, ⟨(some 113), .ext 2 (.tmp 107), none⟩),
  (7, ⟨(some 19), .alloc 48 [(.t (.i .i64 0)), (.t (.i .i64 0)), (.t (.i .i64 0)), (.t (.i .i64 0)), (.t (.i .i64 0)), .nl, .nl], none⟩),
  (8, ⟨(some 20), .alloc 24 [(.t (.i .i64 0)), .nl], none⟩),
  (9, ⟨none, .store 7 (.tmp 19) (.tmp 111), none⟩),
  (10, ⟨none, .store 2 (.tmp 20) (.tmp 112), none⟩),
  (11, ⟨(some 21), .mv (.tmp 113), none⟩)]
abbrev f15r15 : Pc := .reg f15o15 [1, 2, 3, 4, 5, 11, 15, 16, 20, 21] [19]
abbrev f15o16 : List (Nat × Pop) := [
  (0, ⟨(some 115), .load true 7 (.tmp 11), none⟩),
  (1, ⟨(some 116), .call 41 [(.tmp 115)], none⟩),
  (2, ⟨(some 114), .mv (.tmp 116), none⟩),
  (3, ⟨(some 117), .ext 0 (.tmp 114), none⟩),
  (4, ⟨(some 118), .ext 1 (.tmp 114), none⟩),
  (5, ⟨(some 22), .alloc 48 [(.t (.i .i64 0)), (.t (.i .i64 0)), (.t (.i .i64 0)), (.t (.i .i64 0)), (.t (.i .i64 0)), .nl, .nl], none⟩),
  (6, ⟨none, .store 7 (.tmp 22) (.tmp 117), none⟩),
  (7, ⟨(some 23), .mv (.tmp 118), none⟩)]
abbrev f15r16 : Pc := .reg f15o16 [1, 2, 3, 4, 5, 15, 16, 20, 21, 22, 23] [11]
abbrev f15o17 : List (Nat × Pop) := [
  (0, ⟨(some 120), .load true 7 (.tmp 22), none⟩),
  (1, ⟨(some 121), .call 37 [(.tmp 120)], none⟩),
  (2, ⟨(some 119), .mv (.tmp 121), none⟩),
  (3, ⟨(some 122), .ext 0 (.tmp 119), none⟩),
  (4, ⟨(some 123), .ext 1 (.tmp 119), none⟩),
  (5, ⟨(some 24), .mv (.tmp 122), none⟩),
  (6, ⟨(some 25), .mv (.tmp 123), none⟩)]
abbrev f15r17 : Pc := .reg f15o17 [1, 2, 3, 4, 5, 15, 16, 20, 21, 22, 23, 24, 25] []
abbrev f15o18 : List (Nat × Pop) := [
  (0, ⟨(some 124), .mv (.tmp 16), none⟩),
  (1, ⟨(some 125), .bin .eql (.tmp 124) (.c (.t (.i .i64 0))), none⟩),
  (2, ⟨(some 126), .mv (.tmp 125), none⟩),
  (3, ⟨(some 127), .fad 0 (.tmp 15), (some (126, true))⟩),
  (4, ⟨(some 128), .load false 1 (.tmp 127), (some (126, true))⟩),
  (5, ⟨(some 129), .fad 0 (.tmp 5), (some (126, true))⟩),
  (6, ⟨(some 130), .load false 1 (.tmp 129), (some (126, true))⟩),
  (7, ⟨(some 131), .bin .add (.tmp 130) (.c (.t (.i .i64 1))), (some (126, true))⟩),
  (8, ⟨(some 132), .bin .eql (.tmp 128) (.tmp 131), (some (126, true))⟩),
  (9, ⟨(some 133), .pick (.tmp 126) (.tmp 132) (.c (.t (.b false))), none⟩),
  (10, ⟨(some 134), .mv (.tmp 133), none⟩),
  (11, ⟨(some 135), .load true 2 (.tmp 15), (some (134, true))⟩),
  (12, ⟨(some 136), .mv (.tmp 1), (some (134, true))⟩),
  (13, ⟨(some 137), .mv (.tmp 3), (some (134, true))⟩),
  (14, ⟨(some 138), .call 23 [(.tmp 135), (.tmp 136), (.tmp 137)], (some (134, true))⟩),
  (15, ⟨(some 139), .pick (.tmp 134) (.tmp 138) (.c (.t (.b false))), none⟩),
  (16, ⟨(some 140), .mv (.tmp 139), none⟩),
  (17, ⟨(some 141), .load true 2 (.tmp 15), (some (140, true))⟩),
  (18, ⟨(some 142), .mv (.tmp 1), (some (140, true))⟩),
  (19, ⟨(some 143), .mv (.tmp 2), (some (140, true))⟩),
  (20, ⟨(some 144), .call 23 [(.tmp 141), (.tmp 142), (.tmp 143)], (some (140, true))⟩),
  (21, ⟨(some 145), .pick (.tmp 140) (.tmp 144) (.c (.t (.b false))), none⟩),
  (22, ⟨(some 146), .mv (.tmp 145), none⟩),
  (23, ⟨(some 147), .mv (.tmp 21), (some (146, true))⟩),
  (24, ⟨(some 148), .bin .eql (.tmp 147) (.c (.t (.i .i64 1))), (some (146, true))⟩),
  (25, ⟨(some 149), .pick (.tmp 146) (.tmp 148) (.c (.t (.b false))), none⟩),
  (26, ⟨(some 150), .mv (.tmp 149), none⟩),
  (27, ⟨(some 151), .fad 0 (.tmp 20), (some (150, true))⟩),
  (28, ⟨(some 152), .load false 1 (.tmp 151), (some (150, true))⟩),
  (29, ⟨(some 153), .fad 0 (.tmp 15), (some (150, true))⟩),
  (30, ⟨(some 154), .load false 1 (.tmp 153), (some (150, true))⟩),
  (31, ⟨(some 155), .bin .eql (.tmp 152) (.tmp 154), (some (150, true))⟩),
  (32, ⟨(some 156), .pick (.tmp 150) (.tmp 155) (.c (.t (.b false))), none⟩),
  (33, ⟨(some 157), .mv (.tmp 156), none⟩),
  (34, ⟨(some 158), .mv (.tmp 23), (some (157, true))⟩),
  (35, ⟨(some 159), .bin .eql (.tmp 158) (.c (.t (.i .i64 7))), (some (157, true))⟩),
  (36, ⟨(some 160), .pick (.tmp 157) (.tmp 159) (.c (.t (.b false))), none⟩),
  (37, ⟨(some 161), .mv (.tmp 160), none⟩),
  (38, ⟨(some 162), .fad 3 (.tmp 22), (some (161, true))⟩),
  (39, ⟨(some 163), .load false 1 (.tmp 162), (some (161, true))⟩),
  (40, ⟨(some 164), .bin .eql (.tmp 163) (.c (.t (.i .i64 3))), (some (161, true))⟩),
  (41, ⟨(some 165), .pick (.tmp 161) (.tmp 164) (.c (.t (.b false))), none⟩),
  (42, ⟨(some 166), .mv (.tmp 165), none⟩),
  (43, ⟨(some 167), .mv (.tmp 24), (some (166, true))⟩),
  (44, ⟨(some 168), .mv (.tmp 4), (some (166, true))⟩),
  (45, ⟨(some 169), .bin .eql (.tmp 167) (.tmp 168), (some (166, true))⟩),
  (46, ⟨(some 170), .pick (.tmp 166) (.tmp 169) (.c (.t (.b false))), none⟩),
  (47, ⟨(some 171), .mv (.tmp 170), none⟩),
  (48, ⟨(some 172), .mv (.tmp 25), (some (171, true))⟩),
  (49, ⟨(some 173), .pick (.tmp 171) (.tmp 172) (.c (.t (.b false))), none⟩),
  (50, ⟨(some 174), .mv (.tmp 173), none⟩),
  (51, ⟨(some 175), .call 28 [], (some (174, true))⟩),
  (52, ⟨(some 176), .pick (.tmp 174) (.tmp 175) (.c (.t (.b false))), none⟩),
  (53, ⟨(some 10), .mv (.tmp 176), none⟩)]
abbrev f15r18 : Pc := .reg f15o18 [10] [5, 15, 20, 22]
abbrev f15b : Pc := (.seq f15r0 (.seq (.seq f15r1 (.cond (.tmp 39) (.seq f15r2 .ret) .skip)) (.seq f15r3 (.seq (.seq f15r4 (.cond (.tmp 52) (.seq f15r5 .ret) .skip)) (.seq f15r6 (.seq (.seq f15r7 (.cond (.tmp 84) (.seq f15r8 .ret) .skip)) (.seq (.seq f15r9 (.block 0 (.loop f15l0))) (.seq f15r14 (.seq f15r15 (.seq f15r16 (.seq f15r17 (.seq f15r18 .ret))))))))))))
abbrev f15 : Pfn := ⟨5, 177, [.tmp 10], f15b⟩
def f15K : Array (List Nat) := #[[1, 2, 3, 4, 5], [1, 2, 3, 4, 5, 39], [10], [1, 2, 3, 4, 5, 11, 12, 13], [1, 2, 3, 4, 5, 11, 12, 52], [10], [1, 2, 3, 4, 5, 11, 12, 14, 15, 16], [1, 2, 3, 4, 5, 11, 12, 15, 84], [10], [1, 2, 3, 4, 5, 11, 15, 85, 86, 87], [1, 2, 3, 4, 5, 11, 15, 85, 86, 87, 88], [1, 2, 3, 4, 5, 11, 15, 17, 18, 85, 86, 87], [1, 2, 3, 4, 5, 11, 15, 85, 86, 87], [1, 2, 3, 4, 5, 11, 15, 85, 86, 87], [1, 2, 3, 4, 5, 11, 15, 16], [1, 2, 3, 4, 5, 11, 15, 16, 20, 21], [1, 2, 3, 4, 5, 15, 16, 20, 21, 22, 23], [1, 2, 3, 4, 5, 15, 16, 20, 21, 22, 23, 24, 25], [10]]
def f15H : Array (List Nat) := #[[], [], [5], [], [], [5, 11], [], [14], [5, 11, 15], [], [], [], [], [], [], [19], [11], [], [5, 15, 20, 22]]
def f15A : Ann := ⟨fun r => f15K.getD r [], fun r => f15H.getD r [], fun r i => ([] : List (Nat × Nat)).contains (r, i)⟩
theorem f15C : compF Go.Proofs.Try.prog f15A 15 = some f15 := by kernel_rfl

/-- switchboard/switchboardlaw22.awake -/
abbrev f28o0 : List (Nat × Pop) := [
  (0, ⟨(some 0), .mv (.c (.t (.b false))), none⟩)]
abbrev f28r0 : Pc := .reg f28o0 [] []
abbrev f28o1 : List (Nat × Pop) := [
  (0, ⟨(some 12), .call 39 [], none⟩),
  (1, ⟨(some 13), .call 29 [(.tmp 12), (.c (.t (.i .i64 0))), (.c (.t (.i .i64 1))), (.c (.t (.i .i64 2))), (.c (.t (.s [97, 98]))), (.c (.t (.i .i64 1)))], none⟩),
  (2, ⟨(some 11), .mv (.tmp 13), none⟩),
  (3, ⟨(some 14), .ext 0 (.tmp 11), none⟩),
  (4, ⟨(some 15), .ext 1 (.tmp 11), none⟩),
  (5, ⟨(some 16), .ext 2 (.tmp 11), none⟩),
  (6, ⟨(some 1), .alloc 48 [(.t (.i .i64 0)), (.t (.i .i64 0)), (.t (.i .i64 0)), (.t (.i .i64 0)), (.t (.i .i64 0)), .nl, .nl], none⟩),
  (7, ⟨none, .store 7 (.tmp 1) (.tmp 14), none⟩),
  (8, ⟨(some 2), .mv (.tmp 15), none⟩),
  (9, ⟨(some 3), .mv (.tmp 16), none⟩)]
abbrev f28r1 : Pc := .reg f28o1 [1, 2, 3] []
abbrev f28o2 : List (Nat × Pop) := [
  (0, ⟨(some 18), .load true 7 (.tmp 1), none⟩),
  (1, ⟨(some 19), .call 35 [(.tmp 18), (.c (.t (.i .i64 1))), (.c (.t (.s [98])))], none⟩),
  (2, ⟨(some 17), .mv (.tmp 19), none⟩),
  (3, ⟨(some 20), .ext 0 (.tmp 17), none⟩),
  (4, ⟨(some 21), .ext 1 (.tmp 17), none⟩),
  (5, ⟨none, .store 7 (.tmp 1) (.tmp 20), none⟩),
  (6, ⟨(some 4), .mv (.tmp 21), none⟩)]
abbrev f28r2 : Pc := .reg f28o2 [1, 2, 3, 4] []
abbrev f28o3 : List (Nat × Pop) := [
  (0, ⟨(some 23), .load true 7 (.tmp 1), none⟩),
  (1, ⟨(some 24), .call 35 [(.tmp 23), (.c (.t (.i .i64 0))), (.c (.t (.s [97])))], none⟩),
  (2, ⟨(some 22), .mv (.tmp 24), none⟩),
  (3, ⟨(some 25), .ext 0 (.tmp 22), none⟩),
  (4, ⟨(some 26), .ext 1 (.tmp 22), none⟩),
  (5, ⟨none, .store 7 (.tmp 1) (.tmp 25), none⟩),
  (6, ⟨(some 5), .mv (.tmp 26), none⟩)]
abbrev f28r3 : Pc := .reg f28o3 [1, 2, 3, 4, 5] []
abbrev f28o4 : List (Nat × Pop) := [
  (0, ⟨(some 28), .load true 7 (.tmp 1), none⟩),
  (1, ⟨(some 29), .call 37 [(.tmp 28)], none⟩),
  (2, ⟨(some 27), .mv (.tmp 29), none⟩),
  (3, ⟨(some 30), .ext 0 (.tmp 27), none⟩),
  (4, ⟨(some 31), .ext 1 (.tmp 27), none⟩),
  (5, ⟨(some 6), .mv (.tmp 30), none⟩),
  (6, ⟨(some 7), .mv (.tmp 31), none⟩)]
abbrev f28r4 : Pc := .reg f28o4 [1, 2, 3, 4, 5, 6, 7] []
abbrev f28o5 : List (Nat × Pop) := [
  (0, ⟨(some 33), .load true 7 (.tmp 1), none⟩),
  (1, ⟨(some 34), .callq 39 [], none⟩),
  (2, ⟨(some 35), .callq 40 [(.tmp 33), (.tmp 34)], none⟩),
  (3, ⟨(some 32), .mv (.tmp 35), none⟩),
  (4, ⟨(some 36), .ext 0 (.tmp 32), none⟩),
  (5, ⟨(some 37), .ext 1 (.tmp 32), none⟩),
  (6, ⟨(some 38), .ext 2 (.tmp 32), none⟩),
  (7, ⟨(some 8), .alloc 48 [(.t (.i .i64 0)), (.t (.i .i64 0)), (.t (.i .i64 0)), (.t (.i .i64 0)), (.t (.i .i64 0)), .nl, .nl], none⟩),
  (8, ⟨(some 9), .alloc 24 [(.t (.i .i64 0)), .nl], none⟩),
  (9, ⟨none, .store 7 (.tmp 8) (.tmp 36), none⟩),
  (10, ⟨none, .store 2 (.tmp 9) (.tmp 37), none⟩),
  (11, ⟨(some 10), .mv (.tmp 38), none⟩)]
abbrev f28r5 : Pc := .reg f28o5 [1, 2, 3, 4, 5, 6, 7, 9, 10] [8]
abbrev f28o6 : List (Nat × Pop) := [
  (0, ⟨(some 39), .mv (.tmp 3), none⟩),
  (1, ⟨(some 40), .bin .eql (.tmp 39) (.c (.t (.i .i64 0))), none⟩),
  (2, ⟨(some 41), .mv (.tmp 40), none⟩),
  (3, ⟨(some 42), .mv (.tmp 2), (some (41, true))⟩),
  (4, ⟨(some 43), .lenL (.tmp 42), (some (41, true))⟩),
  (5, ⟨(some 44), .bin .eql (.tmp 43) (.c (.t (.i .i64 2))), (some (41, true))⟩),
  (6, ⟨(some 45), .pick (.tmp 41) (.tmp 44) (.c (.t (.b false))), none⟩),
  (7, ⟨(some 46), .mv (.tmp 45), none⟩),
  (8, ⟨(some 47), .mv (.tmp 4), (some (46, true))⟩),
  (9, ⟨(some 48), .bin .eql (.tmp 47) (.c (.t (.i .i64 0))), (some (46, true))⟩),
  (10, ⟨(some 49), .pick (.tmp 46) (.tmp 48) (.c (.t (.b false))), none⟩),
  (11, ⟨(some 50), .mv (.tmp 49), none⟩),
  (12, ⟨(some 51), .mv (.tmp 5), (some (50, true))⟩),
  (13, ⟨(some 52), .bin .eql (.tmp 51) (.c (.t (.i .i64 0))), (some (50, true))⟩),
  (14, ⟨(some 53), .pick (.tmp 50) (.tmp 52) (.c (.t (.b false))), none⟩),
  (15, ⟨(some 54), .mv (.tmp 53), none⟩),
  (16, ⟨(some 55), .fad 3 (.tmp 1), (some (54, true))⟩),
  (17, ⟨(some 56), .load false 1 (.tmp 55), (some (54, true))⟩),
  (18, ⟨(some 57), .bin .eql (.tmp 56) (.c (.t (.i .i64 2))), (some (54, true))⟩),
  (19, ⟨(some 58), .pick (.tmp 54) (.tmp 57) (.c (.t (.b false))), none⟩),
  (20, ⟨(some 59), .mv (.tmp 58), none⟩),
  (21, ⟨(some 60), .mv (.tmp 6), (some (59, true))⟩),
  (22, ⟨(some 61), .bin .eql (.tmp 60) (.c (.t (.s [97, 98]))), (some (59, true))⟩),
  (23, ⟨(some 62), .pick (.tmp 59) (.tmp 61) (.c (.t (.b false))), none⟩),
  (24, ⟨(some 63), .mv (.tmp 62), none⟩),
  (25, ⟨(some 64), .mv (.tmp 7), (some (63, true))⟩),
  (26, ⟨(some 65), .pick (.tmp 63) (.tmp 64) (.c (.t (.b false))), none⟩),
  (27, ⟨(some 66), .mv (.tmp 65), none⟩),
  (28, ⟨(some 67), .mv (.tmp 10), (some (66, true))⟩),
  (29, ⟨(some 68), .bin .eql (.tmp 67) (.c (.t (.i .i64 0))), (some (66, true))⟩),
  (30, ⟨(some 69), .pick (.tmp 66) (.tmp 68) (.c (.t (.b false))), none⟩),
  (31, ⟨(some 70), .mv (.tmp 69), none⟩),
  (32, ⟨(some 71), .load true 2 (.tmp 9), (some (70, true))⟩),
  (33, ⟨(some 72), .call 23 [(.tmp 71), (.c (.t (.i .i64 0))), (.c (.t (.i .i64 2)))], (some (70, true))⟩),
  (34, ⟨(some 73), .pick (.tmp 70) (.tmp 72) (.c (.t (.b false))), none⟩),
  (35, ⟨(some 0), .mv (.tmp 73), none⟩)]
abbrev f28r6 : Pc := .reg f28o6 [0] [1, 9]
abbrev f28b : Pc := (.seq f28r0 (.seq f28r1 (.seq f28r2 (.seq f28r3 (.seq f28r4 (.seq f28r5 (.seq f28r6 .ret)))))))
abbrev f28 : Pfn := ⟨0, 74, [.tmp 0], f28b⟩
def f28K : Array (List Nat) := #[[], [1, 2, 3], [1, 2, 3, 4], [1, 2, 3, 4, 5], [1, 2, 3, 4, 5, 6, 7], [1, 2, 3, 4, 5, 6, 7, 9, 10], [0]]
def f28H : Array (List Nat) := #[[], [], [], [], [], [8], [1, 9]]
def f28A : Ann := ⟨fun r => f28K.getD r [], fun r => f28H.getD r [], fun r i => ([] : List (Nat × Nat)).contains (r, i)⟩
theorem f28C : compF Go.Proofs.Try.prog f28A 28 = some f28 := by kernel_rfl

/-- switchboard/move.Begin -/
abbrev f29o0 : List (Nat × Pop) := [
  (0, ⟨(some 6), .box 24 2 (.tmp 0), none⟩),
  (1, ⟨(some 12), .alloc 48 [(.t (.i .i64 0)), (.t (.i .i64 0)), (.t (.i .i64 0)), (.t (.i .i64 0)), (.t (.i .i64 0)), .nl, .nl], none⟩),
  (2, ⟨(some 13), .nilv 9 1, none⟩),
  (3, ⟨(some 14), .mv (.c (.t (.i .i64 0))), none⟩)]
abbrev f29r0 : Pc := .reg f29o0 [1, 2, 3, 4, 5, 6, 12] [13]
abbrev f29o1 : List (Nat × Pop) := [
  (0, ⟨(some 19), .mv (.tmp 4), none⟩),
  (1, ⟨(some 20), .mv (.tmp 5), none⟩),
  (2, ⟨(some 21), .call 50 [(.tmp 19), (.tmp 20)], none⟩),
  (3, ⟨(some 18), .mv (.tmp 21), none⟩),
  (4, ⟨(some 22), .ext 0 (.tmp 18), none⟩),
  (5, ⟨(some 23), .ext 1 (.tmp 18), none⟩),
  (6, ⟨(some 15), .mv (.tmp 22), none⟩),
  (7, ⟨(some 16), .mv (.tmp 23), none⟩)]
abbrev f29r1 : Pc := .reg f29o1 [1, 2, 3, 4, 6, 12, 15, 16] []
abbrev f29o2 : List (Nat × Pop) := [
  (0, ⟨(some 25), .load true 2 (.tmp 6), none⟩),
  (1, ⟨(some 26), .call 22 [(.tmp 25)], none⟩),
  (2, ⟨(some 27), .un .not (.tmp 26), none⟩),
  (3, ⟨(some 28), .mv (.tmp 27), none⟩),
  (4, ⟨(some 29), .load true 2 (.tmp 6), (some (28, false))⟩),
  (5, ⟨(some 30), .mv (.tmp 1), (some (28, false))⟩),
  (6, ⟨(some 31), .mv (.tmp 2), (some (28, false))⟩),
  (7, ⟨(some 32), .call 23 [(.tmp 29), (.tmp 30), (.tmp 31)], (some (28, false))⟩),
  (8, ⟨(some 33), .un .not (.tmp 32), (some (28, false))⟩),
  (9, ⟨(some 34), .pick (.tmp 28) (.c (.t (.b true))) (.tmp 33), none⟩),
  (10, ⟨(some 35), .mv (.tmp 34), none⟩),
  (11, ⟨(some 36), .mv (.tmp 3), (some (35, false))⟩),
  (12, ⟨(some 37), .bin .lss (.tmp 36) (.c (.t (.i .i64 1))), (some (35, false))⟩),
  (13, ⟨(some 38), .pick (.tmp 35) (.c (.t (.b true))) (.tmp 37), none⟩),
  (14, ⟨(some 39), .mv (.tmp 38), none⟩),
  (15, ⟨(some 40), .mv (.tmp 3), (some (39, false))⟩),
  (16, ⟨(some 41), .bin .gtr (.tmp 40) (.c (.t (.i .i64 4))), (some (39, false))⟩),
  (17, ⟨(some 42), .pick (.tmp 39) (.c (.t (.b true))) (.tmp 41), none⟩),
  (18, ⟨(some 43), .mv (.tmp 42), none⟩),
  (19, ⟨(some 44), .mv (.tmp 4), (some (43, false))⟩),
  (20, ⟨(some 45), .bin .eql (.tmp 44) (.c (.t (.s []))), (some (43, false))⟩),
  (21, ⟨(some 46), .pick (.tmp 43) (.c (.t (.b true))) (.tmp 45), none⟩),
  (22, ⟨(some 47), .mv (.tmp 46), none⟩),
  (23, ⟨(some 48), .mv (.tmp 16), (some (47, false))⟩),
  (24, ⟨(some 49), .un .not (.tmp 48), (some (47, false))⟩),
  (25, ⟨(some 50), .pick (.tmp 47) (.c (.t (.b true))) (.tmp 49), none⟩),
  (26, ⟨(some 24), .mv (.tmp 50), none⟩)]
abbrev f29r2 : Pc := .reg f29o2 [1, 2, 3, 4, 6, 12, 15, 24] []
abbrev f29o3 : List (Nat × Pop) := [
  (0, ⟨(some 51), .build [(.t (.i .i64 0)), (.t (.i .i64 0)), (.t (.i .i64 0)), (.t (.i .i64 0)), (.t (.i .i64 0)), .nl, .nl] [], none⟩),
  (1, ⟨none, .store 7 (.tmp 12) (.tmp 51), none⟩),
  (2, ⟨(some 13), .nilv 9 1, none⟩),
  (3, ⟨(some 14), .mv (.c (.t (.i .i64 1))), none⟩)]
abbrev f29r3 : Pc := .reg f29o3 [12, 13, 14] [6]
abbrev f29o4 : List (Nat × Pop) := [
  (0, ⟨(some 53), .load true 2 (.tmp 6), none⟩),
  (1, ⟨(some 54), .mv (.tmp 1), none⟩),
  (2, ⟨(some 55), .mv (.tmp 3), none⟩),
  (3, ⟨(some 56), .call 23 [(.tmp 53), (.tmp 54), (.tmp 55)], none⟩),
  (4, ⟨(some 52), .mv (.tmp 56), none⟩)]
abbrev f29r4 : Pc := .reg f29o4 [1, 2, 3, 4, 12, 15, 52] [6]
abbrev f29o5 : List (Nat × Pop) := [
  (0, ⟨(some 57), .build [(.t (.i .i64 0)), (.t (.i .i64 0)), (.t (.i .i64 0)), (.t (.i .i64 0)), (.t (.i .i64 0)), .nl, .nl] [], none⟩),
  (1, ⟨none, .store 7 (.tmp 12) (.tmp 57), none⟩),
  (2, ⟨(some 13), .nilv 9 1, none⟩),
  (3, ⟨(some 14), .mv (.c (.t (.i .i64 5))), none⟩)]
abbrev f29r5 : Pc := .reg f29o5 [12, 13, 14] []
abbrev f29o6 : List (Nat × Pop) := [
  (0, ⟨(some 58), .mv (.tmp 15), none⟩),
  (1, ⟨(some 59), .lenL (.tmp 58), none⟩),
  (2, ⟨(some 17), .mv (.tmp 59), none⟩)]
abbrev f29r6 : Pc := .reg f29o6 [1, 2, 3, 4, 12, 15, 17] []
abbrev f29o7 : List (Nat × Pop) := [
  (0, ⟨(some 60), .mv (.tmp 1), none⟩),
  (1, ⟨(some 61), .mv (.tmp 2), none⟩),
  (2, ⟨(some 62), .mv (.tmp 3), none⟩),
  (3, ⟨(some 63), .mv (.tmp 4), none⟩),
  (4, ⟨(some 64), .callq 51 [(.tmp 63)], none⟩),
  (5, ⟨(some 65), .mv (.tmp 17), none⟩),
  (6, ⟨(some 66), .mks 4 1 1 [(.b false)] (.tmp 65) (.tmp 65), none⟩),
  (7, ⟨(some 67), .mv (.tmp 17), none⟩),
  (8, ⟨(some 68), .mks 9 1 16 [(.s [])] (.tmp 67) (.tmp 67), none⟩),
  (9, ⟨(some 69), .build [(.t (.i .i64 0)), (.t (.i .i64 0)), (.t (.i .i64 0)), (.t (.i .i64 0)), (.t (.i .i64 0)), .nl, .nl] [(0, 1, (.tmp 60)), (1, 1, (.tmp 61)), (2, 1, (.tmp 62)), (3, 1, (.c (.t (.i .i64 1)))), (4, 1, (.tmp 64)), (5, 1, (.tmp 66)), (6, 1, (.tmp 68))], none⟩),
  (10, ⟨(some 70), .mv (.tmp 15), none⟩),
  (11, ⟨none, .store 7 (.tmp 12) (.tmp 69), none⟩),
  (12, ⟨(some 13), .mv (.tmp 70), none⟩),
  (13, ⟨(some 14), .mv (.c (.t (.i .i64 0))), none⟩)]
abbrev f29r7 : Pc := .reg f29o7 [12, 13, 14] []
abbrev f29b : Pc := (.seq f29r0 (.seq f29r1 (.seq (.block 0 (.seq f29r2 (.cond (.tmp 24) (.seq f29r3 .ret) (.seq f29r4 (.cond (.tmp 52) (.seq f29r5 .ret) .skip))))) (.seq f29r6 (.seq f29r7 .ret)))))
abbrev f29 : Pfn := ⟨6, 71, [.cell 12 true 7, .tmp 13, .tmp 14], f29b⟩
def f29K : Array (List Nat) := #[[1, 2, 3, 4, 5, 6, 12], [1, 2, 3, 4, 6, 12, 15, 16], [1, 2, 3, 4, 6, 12, 15, 24], [12, 13, 14], [1, 2, 3, 4, 12, 15, 52], [12, 13, 14], [1, 2, 3, 4, 12, 15, 17], [12, 13, 14]]
def f29H : Array (List Nat) := #[[13], [], [], [6], [6], [], [], []]
def f29A : Ann := ⟨fun r => f29K.getD r [], fun r => f29H.getD r [], fun r i => ([] : List (Nat × Nat)).contains (r, i)⟩
theorem f29C : compF Go.Proofs.Try.prog f29A 29 = some f29 := by kernel_rfl

/-- switchboard/switchboardref22.Begin -/
abbrev f30o0 : List (Nat × Pop) := [
  (0, ⟨(some 6), .box 27 2 (.tmp 0), none⟩),
  (1, ⟨(some 12), .alloc 51 [(.t (.i .i64 0)), (.t (.i .i64 0)), (.t (.i .i64 0)), (.t (.i .i64 0)), (.t (.i .i64 0)), .nl, .nl], none⟩),
  (2, ⟨(some 13), .nilv 9 1, none⟩),
  (3, ⟨(some 14), .mv (.c (.t (.i .i64 0))), none⟩)]
abbrev f30r0 : Pc := .reg f30o0 [1, 2, 3, 4, 5, 6, 12] [13, 16, 100]
abbrev f30o1 : List (Nat × Pop) := [
  (0, ⟨(some 19), .load true 2 (.tmp 6), none⟩),
  (1, ⟨(some 20), .call 26 [(.tmp 19)], none⟩),
  (2, ⟨(some 21), .un .not (.tmp 20), none⟩),
  (3, ⟨(some 22), .mv (.tmp 21), none⟩),
  (4, ⟨(some 23), .mv (.tmp 1), (some (22, false))⟩),
  (5, ⟨(some 24), .bin .lss (.tmp 23) (.c (.t (.i .i64 0))), (some (22, false))⟩),
  (6, ⟨(some 25), .pick (.tmp 22) (.c (.t (.b true))) (.tmp 24), none⟩),
  (7, ⟨(some 26), .mv (.tmp 25), none⟩),
  (8, ⟨(some 27), .mv (.tmp 1), (some (26, false))⟩),
  (9, ⟨(some 28), .fad 1 (.tmp 6), (some (26, false))⟩),
  (10, ⟨(some 29), .load false 1 (.tmp 28), (some (26, false))⟩),
  (11, ⟨(some 30), .lenL (.tmp 29), (some (26, false))⟩),
  (12, ⟨(some 31), .bin .geq (.tmp 27) (.tmp 30), (some (26, false))⟩),
  (13, ⟨(some 32), .pick (.tmp 26) (.c (.t (.b true))) (.tmp 31), none⟩),
  (14, ⟨(some 33), .mv (.tmp 32), none⟩),
  (15, ⟨(some 34), .fad 1 (.tmp 6), (some (33, false))⟩),
  (16, ⟨(some 35), .load false 1 (.tmp 34), (some (33, false))⟩),
  (17, ⟨(some 36), .mv (.tmp 1), (some (33, false))⟩),
  (18, ⟨(some 37), .ixS 1 (.tmp 35) (.tmp 36), (some (33, false))⟩),
  (19, ⟨(some 38), .load false 1 (.tmp 37), (some (33, false))⟩),
  (20, ⟨(some 39), .mv (.tmp 2), (some (33, false))⟩),
  (21, ⟨(some 40), .call 27 [(.tmp 38), (.tmp 39)], (some (33, false))⟩),
  (22, ⟨(some 41), .un .not (.tmp 40), (some (33, false))⟩),
  (23, ⟨(some 42), .pick (.tmp 33) (.c (.t (.b true))) (.tmp 41), none⟩),
  (24, ⟨(some 43), .mv (.tmp 42), none⟩),
  (25, ⟨(some 44), .mv (.tmp 3), (some (43, false))⟩),
  (26, ⟨(some 45), .bin .lss (.tmp 44) (.c (.t (.i .i64 1))), (some (43, false))⟩),
  (27, ⟨(some 46), .pick (.tmp 43) (.c (.t (.b true))) (.tmp 45), none⟩),
  (28, ⟨(some 47), .mv (.tmp 46), none⟩),
  (29, ⟨(some 48), .mv (.tmp 3), (some (47, false))⟩),
  (30, ⟨(some 49), .bin .gtr (.tmp 48) (.c (.t (.i .i64 4))), (some (47, false))⟩),
  (31, ⟨(some 50), .pick (.tmp 47) (.c (.t (.b true))) (.tmp 49), none⟩),
  (32, ⟨(some 51), .mv (.tmp 50), none⟩),
  (33, ⟨(some 52), .mv (.tmp 4), (some (51, false))⟩),
  (34, ⟨(some 53), .bin .eql (.tmp 52) (.c (.t (.s []))), (some (51, false))⟩),
  (35, ⟨(some 54), .pick (.tmp 51) (.c (.t (.b true))) (.tmp 53), none⟩),
  (36, ⟨(some 55), .mv (.tmp 54), none⟩),
  (37, ⟨(some 56), .mv (.tmp 5), (some (55, false))⟩),
  (38, ⟨(some 57), .bin .lss (.tmp 56) (.c (.t (.i .i64 1))), (some (55, false))⟩),
  (39, ⟨(some 58), .pick (.tmp 55) (.c (.t (.b true))) (.tmp 57), none⟩),
  (40, ⟨(some 59), .mv (.tmp 58), none⟩),
  (41, ⟨(some 60), .mv (.tmp 5), (some (59, false))⟩),
  (42, ⟨(some 61), .bin .gtr (.tmp 60) (.c (.t (.i .i64 64))), (some (59, false))⟩),
  (43, ⟨(some 62), .pick (.tmp 59) (.c (.t (.b true))) (.tmp 61), none⟩)]
abbrev f30r1 : Pc := .reg f30o1 [1, 2, 3, 4, 5, 6, 12, 62] []
abbrev f30o2 : List (Nat × Pop) := [
  (0, ⟨(some 63), .build [(.t (.i .i64 0)), (.t (.i .i64 0)), (.t (.i .i64 0)), (.t (.i .i64 0)), (.t (.i .i64 0)), .nl, .nl] [], none⟩),
  (1, ⟨none, .store 7 (.tmp 12) (.tmp 63), none⟩),
  (2, ⟨(some 13), .nilv 9 1, none⟩),
  (3, ⟨(some 14), .mv (.c (.t (.i .i64 1))), none⟩)]
abbrev f30r2 : Pc := .reg f30o2 [12, 13, 14] [6]
abbrev f30o3 : List (Nat × Pop) := [
  (0, ⟨(some 64), .fad 1 (.tmp 6), none⟩),
  (1, ⟨(some 65), .load false 1 (.tmp 64), none⟩),
  (2, ⟨(some 66), .mv (.tmp 1), none⟩),
  (3, ⟨(some 67), .ixS 1 (.tmp 65) (.tmp 66), none⟩),
  (4, ⟨(some 68), .load false 1 (.tmp 67), none⟩),
  (5, ⟨(some 69), .mv (.tmp 3), none⟩),
  (6, ⟨(some 70), .call 27 [(.tmp 68), (.tmp 69)], none⟩)]
abbrev f30r3 : Pc := .reg f30o3 [1, 2, 3, 4, 5, 12, 70] [6]
abbrev f30o4 : List (Nat × Pop) := [
  (0, ⟨(some 71), .build [(.t (.i .i64 0)), (.t (.i .i64 0)), (.t (.i .i64 0)), (.t (.i .i64 0)), (.t (.i .i64 0)), .nl, .nl] [], none⟩),
  (1, ⟨none, .store 7 (.tmp 12) (.tmp 71), none⟩),
  (2, ⟨(some 13), .nilv 9 1, none⟩),
  (3, ⟨(some 14), .mv (.c (.t (.i .i64 5))), none⟩)]
abbrev f30r4 : Pc := .reg f30o4 [12, 13, 14] []
abbrev f30o5 : List (Nat × Pop) := [
  (0, ⟨(some 72), .mv (.tmp 1), none⟩),
  (1, ⟨(some 73), .mv (.tmp 2), none⟩),
  (2, ⟨(some 74), .mv (.tmp 3), none⟩),
  (3, ⟨(some 75), .mv (.tmp 4), none⟩),
  (4, ⟨(some 76), .call 52 [(.tmp 75)], none⟩),
  (5, ⟨(some 77), .build [(.t (.i .i64 0)), (.t (.i .i64 0)), (.t (.i .i64 0)), (.t (.i .i64 0)), (.t (.i .i64 0)), .nl, .nl] [(0, 1, (.tmp 72)), (1, 1, (.tmp 73)), (2, 1, (.tmp 74)), (3, 1, (.c (.t (.i .i64 1)))), (4, 1, (.tmp 76))], none⟩),
  (6, ⟨(some 15), .alloc 51 [(.t (.i .i64 0)), (.t (.i .i64 0)), (.t (.i .i64 0)), (.t (.i .i64 0)), (.t (.i .i64 0)), .nl, .nl], none⟩),
  (7, ⟨none, .store 7 (.tmp 15) (.tmp 77), none⟩)]
abbrev f30r5 : Pc := .reg f30o5 [4, 5, 12, 15] []
abbrev f30o6 : List (Nat × Pop) := [
  (0, ⟨(some 16), .nilv 9 1, none⟩)]
abbrev f30r6 : Pc := .reg f30o6 [4, 5, 12, 15, 16] []
abbrev f30o7 : List (Nat × Pop) := [
  (0, ⟨(some 17), .mv (.c (.t (.i .i64 0))), none⟩)]
abbrev f30r7 : Pc := .reg f30o7 [4, 5, 12, 15, 16, 17] []
abbrev f30o8 : List (Nat × Pop) := [
  (0, ⟨(some 78), .mv (.tmp 17), none⟩),
  (1, ⟨(some 79), .mv (.tmp 4), none⟩),
  (2, ⟨(some 80), .lenS (.tmp 79), none⟩),
  (3, ⟨(some 81), .bin .lss (.tmp 78) (.tmp 80), none⟩)]
abbrev f30r8 : Pc := .reg f30o8 [4, 5, 12, 15, 16, 17, 81] []
abbrev f30o10 : List (Nat × Pop) := [
  (0, ⟨(some 85), .mv (.tmp 17), none⟩),
  (1, ⟨(some 86), .mv (.tmp 5), none⟩),
  (2, ⟨(some 87), .bin .add (.tmp 85) (.tmp 86), none⟩),
  (3, ⟨(some 18), .mv (.tmp 87), none⟩)]
abbrev f30r10 : Pc := .reg f30o10 [4, 5, 12, 15, 16, 17, 18] []
abbrev f30o11 : List (Nat × Pop) := [
  (0, ⟨(some 88), .mv (.tmp 18), none⟩),
  (1, ⟨(some 89), .mv (.tmp 4), none⟩),
  (2, ⟨(some 90), .lenS (.tmp 89), none⟩),
  (3, ⟨(some 91), .bin .gtr (.tmp 88) (.tmp 90), none⟩)]
abbrev f30r11 : Pc := .reg f30o11 [4, 5, 12, 15, 16, 17, 18, 91] []
abbrev f30o12 : List (Nat × Pop) := [
  (0, ⟨(some 92), .mv (.tmp 4), none⟩),
  (1, ⟨(some 93), .lenS (.tmp 92), none⟩),
  (2, ⟨(some 18), .mv (.tmp 93), none⟩)]
abbrev f30r12 : Pc := .reg f30o12 [4, 5, 12, 15, 16, 17, 18] []
abbrev f30o13 : List (Nat × Pop) := [
  (0, ⟨(some 94), .mv (.tmp 16), none⟩),
  (1, ⟨(some 95), .mv (.tmp 4), none⟩),
  (2, ⟨(some 96), .mv (.tmp 17), none⟩),
  (3, ⟨(some 97), .mv (.tmp 18), none⟩),
  (4, ⟨(some 98), .slS (.tmp 95) (some (.tmp 96)) (some (.tmp 97)), none⟩),
  (5, ⟨(some 99), .bslT 1 [(.tmp 98)], none⟩),
  (6, ⟨(some 100), .app 9 1 16 (.tmp 94) (.tmp 99), none⟩),
  (7, ⟨(some 16), .mv (.tmp 100), none⟩)]
abbrev f30r13 : Pc := .reg f30o13 [4, 5, 12, 15, 16, 17] []
abbrev f30o14 : List (Nat × Pop) := [
  (0, ⟨(some 101), .fad 5 (.tmp 15), none⟩),
  (1, ⟨(some 102), .load false 1 (.tmp 101), none⟩),
  (2, ⟨(some 103), .bslT 1 [(.c (.t (.b false)))], none⟩),
  (3, ⟨(some 104), .app 4 1 1 (.tmp 102) (.tmp 103), none⟩),
  (4, ⟨(some 105), .fad 5 (.tmp 15), none⟩),
  (5, ⟨none, .store 1 (.tmp 105) (.tmp 104), none⟩)]
abbrev f30r14 : Pc := .reg f30o14 [4, 5, 12, 15, 16, 17] []
abbrev f30o15 : List (Nat × Pop) := [
  (0, ⟨(some 106), .fad 6 (.tmp 15), none⟩),
  (1, ⟨(some 107), .load false 1 (.tmp 106), none⟩),
  (2, ⟨(some 108), .bslT 1 [(.c (.t (.s [])))], none⟩),
  (3, ⟨(some 109), .app 9 1 16 (.tmp 107) (.tmp 108), none⟩),
  (4, ⟨(some 110), .fad 6 (.tmp 15), none⟩),
  (5, ⟨none, .store 1 (.tmp 110) (.tmp 109), none⟩)]
abbrev f30r15 : Pc := .reg f30o15 [4, 5, 12, 15, 16, 17] []
abbrev f30o9 : List (Nat × Pop) := [
  (0, ⟨(some 82), .mv (.tmp 17), none⟩),
  (1, ⟨(some 83), .mv (.tmp 5), none⟩),
  (2, ⟨(some 84), .bin .add (.tmp 82) (.tmp 83), none⟩),
  (3, ⟨(some 17), .mv (.tmp 84), none⟩)]
abbrev f30r9 : Pc := .reg f30o9 [4, 5, 12, 15, 16, 17] []
def f30l0 : Pc := (.seq (.seq f30r8 (.cond (.tmp 81) .skip (.exit 0))) (.seq (.block 1 (.seq f30r10 (.seq (.seq f30r11 (.cond (.tmp 91) f30r12 .skip)) (.seq f30r13 (.seq f30r14 f30r15))))) f30r9))
theorem f30l0e (C : Cfg) (s : St) : evL C f30l0 s = evL C (.seq (.seq f30r8 (.cond (.tmp 81) .skip (.exit 0))) (.seq (.block 1 (.seq f30r10 (.seq (.seq f30r11 (.cond (.tmp 91) f30r12 .skip)) (.seq f30r13 (.seq f30r14 f30r15))))) f30r9)) s := rfl
abbrev f30o16 : List (Nat × Pop) := [
  (0, ⟨(some 111), .load true 7 (.tmp 15), none⟩),
  (1, ⟨(some 112), .mv (.tmp 16), none⟩),
  (2, ⟨none, .store 7 (.tmp 12) (.tmp 111), none⟩),
  (3, ⟨(some 13), .mv (.tmp 112), none⟩),
  (4, ⟨(some 14), .mv (.c (.t (.i .i64 0))), none⟩)]
abbrev f30r16 : Pc := .reg f30o16 [12, 13, 14] [15]
abbrev f30b : Pc := (.seq f30r0 (.seq (.seq f30r1 (.cond (.tmp 62) (.seq f30r2 .ret) .skip)) (.seq (.seq f30r3 (.cond (.tmp 70) (.seq f30r4 .ret) .skip)) (.seq f30r5 (.seq f30r6 (.seq (.seq f30r7 (.block 0 (.loop f30l0))) (.seq f30r16 .ret)))))))
abbrev f30 : Pfn := ⟨6, 113, [.cell 12 true 7, .tmp 13, .tmp 14], f30b⟩
def f30K : Array (List Nat) := #[[1, 2, 3, 4, 5, 6, 12], [1, 2, 3, 4, 5, 6, 12, 62], [12, 13, 14], [1, 2, 3, 4, 5, 12, 70], [12, 13, 14], [4, 5, 12, 15], [4, 5, 12, 15, 16], [4, 5, 12, 15, 16, 17], [4, 5, 12, 15, 16, 17, 81], [4, 5, 12, 15, 16, 17], [4, 5, 12, 15, 16, 17, 18], [4, 5, 12, 15, 16, 17, 18, 91], [4, 5, 12, 15, 16, 17, 18], [4, 5, 12, 15, 16, 17], [4, 5, 12, 15, 16, 17], [4, 5, 12, 15, 16, 17], [12, 13, 14]]
def f30H : Array (List Nat) := #[[13, 16, 100], [], [6], [6], [], [], [], [], [], [], [], [], [], [], [], [], [15]]
def f30A : Ann := ⟨fun r => f30K.getD r [], fun r => f30H.getD r [], fun r i => ([] : List (Nat × Nat)).contains (r, i)⟩
theorem f30C : compF Go.Proofs.Try.prog f30A 30 = some f30 := by kernel_rfl

/-- switchboard/switchboardref22.Same -/
abbrev f31o0 : List (Nat × Pop) := [
  (0, ⟨(some 2), .box 51 7 (.tmp 0), none⟩),
  (1, ⟨(some 3), .box 51 7 (.tmp 1), none⟩),
  (2, ⟨(some 4), .mv (.c (.t (.b false))), none⟩)]
abbrev f31r0 : Pc := .reg f31o0 [2, 3] []
abbrev f31o1 : List (Nat × Pop) := [
  (0, ⟨(some 7), .fad 0 (.tmp 2), none⟩),
  (1, ⟨(some 8), .load false 1 (.tmp 7), none⟩),
  (2, ⟨(some 9), .fad 0 (.tmp 3), none⟩),
  (3, ⟨(some 10), .load false 1 (.tmp 9), none⟩),
  (4, ⟨(some 11), .bin .neq (.tmp 8) (.tmp 10), none⟩),
  (5, ⟨(some 12), .mv (.tmp 11), none⟩),
  (6, ⟨(some 13), .fad 1 (.tmp 2), (some (12, false))⟩),
  (7, ⟨(some 14), .load false 1 (.tmp 13), (some (12, false))⟩),
  (8, ⟨(some 15), .fad 1 (.tmp 3), (some (12, false))⟩),
  (9, ⟨(some 16), .load false 1 (.tmp 15), (some (12, false))⟩),
  (10, ⟨(some 17), .bin .neq (.tmp 14) (.tmp 16), (some (12, false))⟩),
  (11, ⟨(some 18), .pick (.tmp 12) (.c (.t (.b true))) (.tmp 17), none⟩),
  (12, ⟨(some 19), .mv (.tmp 18), none⟩),
  (13, ⟨(some 20), .fad 2 (.tmp 2), (some (19, false))⟩),
  (14, ⟨(some 21), .load false 1 (.tmp 20), (some (19, false))⟩),
  (15, ⟨(some 22), .fad 2 (.tmp 3), (some (19, false))⟩),
  (16, ⟨(some 23), .load false 1 (.tmp 22), (some (19, false))⟩),
  (17, ⟨(some 24), .bin .neq (.tmp 21) (.tmp 23), (some (19, false))⟩),
  (18, ⟨(some 25), .pick (.tmp 19) (.c (.t (.b true))) (.tmp 24), none⟩),
  (19, ⟨(some 26), .mv (.tmp 25), none⟩),
  (20, ⟨(some 27), .fad 3 (.tmp 2), (some (26, false))⟩),
  (21, ⟨(some 28), .load false 1 (.tmp 27), (some (26, false))⟩),
  (22, ⟨(some 29), .fad 3 (.tmp 3), (some (26, false))⟩),
  (23, ⟨(some 30), .load false 1 (.tmp 29), (some (26, false))⟩),
  (24, ⟨(some 31), .bin .neq (.tmp 28) (.tmp 30), (some (26, false))⟩),
  (25, ⟨(some 32), .pick (.tmp 26) (.c (.t (.b true))) (.tmp 31), none⟩),
  (26, ⟨(some 33), .mv (.tmp 32), none⟩),
  (27, ⟨(some 34), .fad 4 (.tmp 2), (some (33, false))⟩),
  (28, ⟨(some 35), .load false 1 (.tmp 34), (some (33, false))⟩),
  (29, ⟨(some 36), .fad 4 (.tmp 3), (some (33, false))⟩),
  (30, ⟨(some 37), .load false 1 (.tmp 36), (some (33, false))⟩),
  (31, ⟨(some 38), .bin .neq (.tmp 35) (.tmp 37), (some (33, false))⟩),
  (32, ⟨(some 39), .pick (.tmp 33) (.c (.t (.b true))) (.tmp 38), none⟩),
  (33, ⟨(some 40), .mv (.tmp 39), none⟩),
  (34, ⟨(some 41), .fad 5 (.tmp 2), (some (40, false))⟩),
  (35, ⟨(some 42), .load false 1 (.tmp 41), (some (40, false))⟩),
  (36, ⟨(some 43), .lenL (.tmp 42), (some (40, false))⟩),
  (37, ⟨(some 44), .fad 5 (.tmp 3), (some (40, false))⟩),
  (38, ⟨(some 45), .load false 1 (.tmp 44), (some (40, false))⟩),
  (39, ⟨(some 46), .lenL (.tmp 45), (some (40, false))⟩),
  (40, ⟨(some 47), .bin .neq (.tmp 43) (.tmp 46), (some (40, false))⟩),
  (41, ⟨(some 48), .pick (.tmp 40) (.c (.t (.b true))) (.tmp 47), none⟩),
  (42, ⟨(some 49), .mv (.tmp 48), none⟩),
  (43, ⟨(some 50), .fad 6 (.tmp 2), (some (49, false))⟩),
  (44, ⟨(some 51), .load false 1 (.tmp 50), (some (49, false))⟩),
  (45, ⟨(some 52), .lenL (.tmp 51), (some (49, false))⟩),
  (46, ⟨(some 53), .fad 6 (.tmp 3), (some (49, false))⟩),
  (47, ⟨(some 54), .load false 1 (.tmp 53), (some (49, false))⟩),
  (48, ⟨(some 55), .lenL (.tmp 54), (some (49, false))⟩),
  (49, ⟨(some 56), .bin .neq (.tmp 52) (.tmp 55), (some (49, false))⟩),
  (50, ⟨(some 57), .pick (.tmp 49) (.c (.t (.b true))) (.tmp 56), none⟩)]
abbrev f31r1 : Pc := .reg f31o1 [2, 3, 57] []
abbrev f31o2 : List (Nat × Pop) := [
  (0, ⟨(some 4), .mv (.c (.t (.b false))), none⟩)]
abbrev f31r2 : Pc := .reg f31o2 [4] [2, 3]
abbrev f31o3 : List (Nat × Pop) := [
  (0, ⟨(some 5), .mv (.c (.t (.i .i64 0))), none⟩)]
abbrev f31r3 : Pc := .reg f31o3 [2, 3, 5] []
abbrev f31o4 : List (Nat × Pop) := [
  (0, ⟨(some 58), .mv (.tmp 5), none⟩),
  (1, ⟨(some 59), .fad 5 (.tmp 2), none⟩),
  (2, ⟨(some 60), .load false 1 (.tmp 59), none⟩),
  (3, ⟨(some 61), .lenL (.tmp 60), none⟩),
  (4, ⟨(some 62), .bin .lss (.tmp 58) (.tmp 61), none⟩)]
abbrev f31r4 : Pc := .reg f31o4 [2, 3, 5, 62] []
abbrev f31o6 : List (Nat × Pop) := [
  (0, ⟨(some 65), .fad 5 (.tmp 2), none⟩),
  (1, ⟨(some 66), .load false 1 (.tmp 65), none⟩),
  (2, ⟨(some 67), .mv (.tmp 5), none⟩),
  (3, ⟨(some 68), .ixS 1 (.tmp 66) (.tmp 67), none⟩),
  (4, ⟨(some 69), .load false 1 (.tmp 68), none⟩),
  (5, ⟨(some 70), .fad 5 (.tmp 3), none⟩),
  (6, ⟨(some 71), .load false 1 (.tmp 70), none⟩),
  (7, ⟨(some 72), .mv (.tmp 5), none⟩),
  (8, ⟨(some 73), .ixS 1 (.tmp 71) (.tmp 72), none⟩),
  (9, ⟨(some 74), .load false 1 (.tmp 73), none⟩),
  (10, ⟨(some 75), .beq true (.tmp 69) (.tmp 74), none⟩)]
abbrev f31r6 : Pc := .reg f31o6 [2, 3, 5, 75] []
abbrev f31o7 : List (Nat × Pop) := [
  (0, ⟨(some 4), .mv (.c (.t (.b false))), none⟩)]
abbrev f31r7 : Pc := .reg f31o7 [4] [2, 3]
abbrev f31o5 : List (Nat × Pop) := [
  (0, ⟨(some 63), .mv (.tmp 5), none⟩),
  (1, ⟨(some 64), .bin .add (.tmp 63) (.c (.t (.i .i64 1))), none⟩),
  (2, ⟨(some 5), .mv (.tmp 64), none⟩)]
abbrev f31r5 : Pc := .reg f31o5 [2, 3, 5] []
def f31l0 : Pc := (.seq (.seq f31r4 (.cond (.tmp 62) .skip (.exit 0))) (.seq (.block 1 (.seq f31r6 (.cond (.tmp 75) (.seq f31r7 .ret) .skip))) f31r5))
theorem f31l0e (C : Cfg) (s : St) : evL C f31l0 s = evL C (.seq (.seq f31r4 (.cond (.tmp 62) .skip (.exit 0))) (.seq (.block 1 (.seq f31r6 (.cond (.tmp 75) (.seq f31r7 .ret) .skip))) f31r5)) s := rfl
abbrev f31o8 : List (Nat × Pop) := [
  (0, ⟨(some 6), .mv (.c (.t (.i .i64 0))), none⟩)]
abbrev f31r8 : Pc := .reg f31o8 [2, 3, 6] []
abbrev f31o9 : List (Nat × Pop) := [
  (0, ⟨(some 76), .mv (.tmp 6), none⟩),
  (1, ⟨(some 77), .fad 6 (.tmp 2), none⟩),
  (2, ⟨(some 78), .load false 1 (.tmp 77), none⟩),
  (3, ⟨(some 79), .lenL (.tmp 78), none⟩),
  (4, ⟨(some 80), .bin .lss (.tmp 76) (.tmp 79), none⟩)]
abbrev f31r9 : Pc := .reg f31o9 [2, 3, 6, 80] []
abbrev f31o11 : List (Nat × Pop) := [
  (0, ⟨(some 83), .fad 6 (.tmp 2), none⟩),
  (1, ⟨(some 84), .load false 1 (.tmp 83), none⟩),
  (2, ⟨(some 85), .mv (.tmp 6), none⟩),
  (3, ⟨(some 86), .ixS 1 (.tmp 84) (.tmp 85), none⟩),
  (4, ⟨(some 87), .load false 1 (.tmp 86), none⟩),
  (5, ⟨(some 88), .fad 6 (.tmp 3), none⟩),
  (6, ⟨(some 89), .load false 1 (.tmp 88), none⟩),
  (7, ⟨(some 90), .mv (.tmp 6), none⟩),
  (8, ⟨(some 91), .ixS 1 (.tmp 89) (.tmp 90), none⟩),
  (9, ⟨(some 92), .load false 1 (.tmp 91), none⟩),
  (10, ⟨(some 93), .bin .neq (.tmp 87) (.tmp 92), none⟩)]
abbrev f31r11 : Pc := .reg f31o11 [2, 3, 6, 93] []
abbrev f31o12 : List (Nat × Pop) := [
  (0, ⟨(some 4), .mv (.c (.t (.b false))), none⟩)]
abbrev f31r12 : Pc := .reg f31o12 [4] [2, 3]
abbrev f31o10 : List (Nat × Pop) := [
  (0, ⟨(some 81), .mv (.tmp 6), none⟩),
  (1, ⟨(some 82), .bin .add (.tmp 81) (.c (.t (.i .i64 1))), none⟩),
  (2, ⟨(some 6), .mv (.tmp 82), none⟩)]
abbrev f31r10 : Pc := .reg f31o10 [2, 3, 6] []
def f31l1 : Pc := (.seq (.seq f31r9 (.cond (.tmp 80) .skip (.exit 2))) (.seq (.block 3 (.seq f31r11 (.cond (.tmp 93) (.seq f31r12 .ret) .skip))) f31r10))
theorem f31l1e (C : Cfg) (s : St) : evL C f31l1 s = evL C (.seq (.seq f31r9 (.cond (.tmp 80) .skip (.exit 2))) (.seq (.block 3 (.seq f31r11 (.cond (.tmp 93) (.seq f31r12 .ret) .skip))) f31r10)) s := rfl
abbrev f31o13 : List (Nat × Pop) := [
  (0, ⟨(some 4), .mv (.c (.t (.b true))), none⟩)]
abbrev f31r13 : Pc := .reg f31o13 [4] [2, 3]
abbrev f31b : Pc := (.seq f31r0 (.seq (.seq f31r1 (.cond (.tmp 57) (.seq f31r2 .ret) .skip)) (.seq (.seq f31r3 (.block 0 (.loop f31l0))) (.seq (.seq f31r8 (.block 2 (.loop f31l1))) (.seq f31r13 .ret)))))
abbrev f31 : Pfn := ⟨2, 94, [.tmp 4], f31b⟩
def f31K : Array (List Nat) := #[[2, 3], [2, 3, 57], [4], [2, 3, 5], [2, 3, 5, 62], [2, 3, 5], [2, 3, 5, 75], [4], [2, 3, 6], [2, 3, 6, 80], [2, 3, 6], [2, 3, 6, 93], [4], [4]]
def f31H : Array (List Nat) := #[[], [], [2, 3], [], [], [], [], [2, 3], [], [], [], [], [2, 3], [2, 3]]
def f31A : Ann := ⟨fun r => f31K.getD r [], fun r => f31H.getD r [], fun r i => ([] : List (Nat × Nat)).contains (r, i)⟩
theorem f31C : compF Go.Proofs.Try.prog f31A 31 = some f31 := by kernel_rfl

/-- switchboard/switchboardlaw22.ref -/
abbrev f32o0 : List (Nat × Pop) := [
  (0, ⟨(some 1), .box 48 7 (.tmp 0), none⟩),
  (1, ⟨(some 2), .alloc 51 [(.t (.i .i64 0)), (.t (.i .i64 0)), (.t (.i .i64 0)), (.t (.i .i64 0)), (.t (.i .i64 0)), .nl, .nl], none⟩)]
abbrev f32r0 : Pc := .reg f32o0 [1, 2] []
abbrev f32o1 : List (Nat × Pop) := [
  (0, ⟨(some 3), .load true 7 (.tmp 1), none⟩),
  (1, ⟨none, .store 7 (.tmp 2) (.tmp 3), none⟩)]
abbrev f32r1 : Pc := .reg f32o1 [2] [1]
abbrev f32b : Pc := (.seq f32r0 (.seq f32r1 .ret))
abbrev f32 : Pfn := ⟨1, 4, [.cell 2 true 7], f32b⟩
def f32K : Array (List Nat) := #[[1, 2], [2]]
def f32H : Array (List Nat) := #[[], [1]]
def f32A : Ann := ⟨fun r => f32K.getD r [], fun r => f32H.getD r [], fun r i => ([] : List (Nat × Nat)).contains (r, i)⟩
theorem f32C : compF Go.Proofs.Try.prog f32A 32 = some f32 := by kernel_rfl

/-- switchboard/switchboardref08.Same -/
abbrev f33o0 : List (Nat × Pop) := [
  (0, ⟨(some 4), .mv (.c (.t (.b false))), none⟩)]
abbrev f33r0 : Pc := .reg f33o0 [0, 1] []
abbrev f33o1 : List (Nat × Pop) := [
  (0, ⟨(some 6), .mv (.tmp 0), none⟩),
  (1, ⟨(some 7), .lenL (.tmp 6), none⟩),
  (2, ⟨(some 8), .mv (.tmp 1), none⟩),
  (3, ⟨(some 9), .lenL (.tmp 8), none⟩),
  (4, ⟨(some 10), .bin .neq (.tmp 7) (.tmp 9), none⟩)]
abbrev f33r1 : Pc := .reg f33o1 [0, 1, 10] []
abbrev f33o2 : List (Nat × Pop) := [
  (0, ⟨(some 4), .mv (.c (.t (.b false))), none⟩)]
abbrev f33r2 : Pc := .reg f33o2 [4] []
abbrev f33o3 : List (Nat × Pop) := [
  (0, ⟨(some 5), .mv (.c (.t (.i .i64 0))), none⟩)]
abbrev f33r3 : Pc := .reg f33o3 [0, 1, 5] []
abbrev f33o4 : List (Nat × Pop) := [
  (0, ⟨(some 11), .mv (.tmp 5), none⟩),
  (1, ⟨(some 12), .mv (.tmp 0), none⟩),
  (2, ⟨(some 13), .lenL (.tmp 12), none⟩),
  (3, ⟨(some 14), .bin .lss (.tmp 11) (.tmp 13), none⟩)]
abbrev f33r4 : Pc := .reg f33o4 [0, 1, 5, 14] []
abbrev f33o6 : List (Nat × Pop) := [
  (0, ⟨(some 17), .mv (.tmp 0), none⟩),
  (1, ⟨(some 18), .mv (.tmp 5), none⟩),
  (2, ⟨(some 19), .ixS 1 (.tmp 17) (.tmp 18), none⟩),
  (3, ⟨(some 20), .load false 1 (.tmp 19), none⟩),
  (4, ⟨(some 21), .mv (.tmp 1), none⟩),
  (5, ⟨(some 22), .mv (.tmp 5), none⟩),
  (6, ⟨(some 23), .ixS 1 (.tmp 21) (.tmp 22), none⟩),
  (7, ⟨(some 24), .load false 1 (.tmp 23), none⟩),
  (8, ⟨(some 25), .bin .neq (.tmp 20) (.tmp 24), none⟩)]
abbrev f33r6 : Pc := .reg f33o6 [0, 1, 5, 25] []
abbrev f33o7 : List (Nat × Pop) := [
  (0, ⟨(some 4), .mv (.c (.t (.b false))), none⟩)]
abbrev f33r7 : Pc := .reg f33o7 [4] []
abbrev f33o5 : List (Nat × Pop) := [
  (0, ⟨(some 15), .mv (.tmp 5), none⟩),
  (1, ⟨(some 16), .bin .add (.tmp 15) (.c (.t (.i .i64 1))), none⟩),
  (2, ⟨(some 5), .mv (.tmp 16), none⟩)]
abbrev f33r5 : Pc := .reg f33o5 [0, 1, 5] []
def f33l0 : Pc := (.seq (.seq f33r4 (.cond (.tmp 14) .skip (.exit 0))) (.seq (.block 1 (.seq f33r6 (.cond (.tmp 25) (.seq f33r7 .ret) .skip))) f33r5))
theorem f33l0e (C : Cfg) (s : St) : evL C f33l0 s = evL C (.seq (.seq f33r4 (.cond (.tmp 14) .skip (.exit 0))) (.seq (.block 1 (.seq f33r6 (.cond (.tmp 25) (.seq f33r7 .ret) .skip))) f33r5)) s := rfl
abbrev f33o8 : List (Nat × Pop) := [
  (0, ⟨(some 4), .mv (.c (.t (.b true))), none⟩)]
abbrev f33r8 : Pc := .reg f33o8 [4] []
abbrev f33b : Pc := (.seq f33r0 (.seq (.seq f33r1 (.cond (.tmp 10) (.seq f33r2 .ret) .skip)) (.seq (.seq f33r3 (.block 0 (.loop f33l0))) (.seq f33r8 .ret))))
abbrev f33 : Pfn := ⟨2, 26, [.tmp 4], f33b⟩
def f33K : Array (List Nat) := #[[0, 1], [0, 1, 10], [4], [0, 1, 5], [0, 1, 5, 14], [0, 1, 5], [0, 1, 5, 25], [4], [4]]
def f33H : Array (List Nat) := #[[], [], [], [], [], [], [], [], []]
def f33A : Ann := ⟨fun r => f33K.getD r [], fun r => f33H.getD r [], fun r i => ([] : List (Nat × Nat)).contains (r, i)⟩
theorem f33C : compF Go.Proofs.Try.prog f33A 33 = some f33 := by kernel_rfl

/-- switchboard/switchboardlaw22.small -/
abbrev f34o0 : List (Nat × Pop) := [
  (0, ⟨(some 1), .box 48 7 (.tmp 0), none⟩),
  (1, ⟨(some 2), .mv (.c (.t (.b false))), none⟩)]
abbrev f34r0 : Pc := .reg f34o0 [1] []
abbrev f34o1 : List (Nat × Pop) := [
  (0, ⟨(some 5), .fad 6 (.tmp 1), none⟩),
  (1, ⟨(some 6), .load false 1 (.tmp 5), none⟩),
  (2, ⟨(some 7), .lenL (.tmp 6), none⟩),
  (3, ⟨(some 8), .mv (.c (.t (.i .i64 0))), none⟩)]
abbrev f34r1 : Pc := .reg f34o1 [1, 6, 7, 8] []
abbrev f34o2 : List (Nat × Pop) := [
  (0, ⟨(some 9), .bin .lss (.tmp 8) (.tmp 7), none⟩)]
abbrev f34r2 : Pc := .reg f34o2 [1, 6, 7, 8, 9] []
abbrev f34o3 : List (Nat × Pop) := [
  (0, ⟨(some 10), .mv (.tmp 8), none⟩),
  (1, ⟨(some 11), .ixS 1 (.tmp 6) (.tmp 8), none⟩),
  (2, ⟨(some 12), .load false 1 (.tmp 11), none⟩),
  (3, ⟨(some 3), .mv (.tmp 10), none⟩),
  (4, ⟨(some 4), .mv (.tmp 12), none⟩)]
abbrev f34r3 : Pc := .reg f34o3 [1, 3, 4, 6, 7, 8] []
abbrev f34o4 : List (Nat × Pop) := [
  (0, ⟨(some 13), .mv (.tmp 3), none⟩),
  (1, ⟨(some 14), .bin .lss (.tmp 13) (.c (.t (.i .i64 60))), none⟩),
  (2, ⟨(some 15), .mv (.tmp 14), none⟩),
  (3, ⟨(some 16), .mv (.tmp 4), (some (15, true))⟩),
  (4, ⟨(some 17), .lenS (.tmp 16), (some (15, true))⟩),
  (5, ⟨(some 18), .bin .gtr (.tmp 17) (.c (.t (.i .i64 100))), (some (15, true))⟩),
  (6, ⟨(some 19), .pick (.tmp 15) (.tmp 18) (.c (.t (.b false))), none⟩)]
abbrev f34r4 : Pc := .reg f34o4 [1, 6, 7, 8, 19] []
abbrev f34o5 : List (Nat × Pop) := [
  (0, ⟨(some 2), .mv (.c (.t (.b false))), none⟩)]
abbrev f34r5 : Pc := .reg f34o5 [2] [1]
abbrev f34o6 : List (Nat × Pop) := [
  (0, ⟨(some 20), .bin .add (.tmp 8) (.c (.t (.i .i64 1))), none⟩),
  (1, ⟨(some 8), .mv (.tmp 20), none⟩)]
abbrev f34r6 : Pc := .reg f34o6 [1, 6, 7, 8] []
def f34l0 : Pc := (.seq f34r2 (.seq (.cond (.tmp 9) .skip (.exit 0)) (.seq (.block 1 (.seq f34r3 (.seq f34r4 (.cond (.tmp 19) (.seq f34r5 .ret) .skip)))) f34r6)))
theorem f34l0e (C : Cfg) (s : St) : evL C f34l0 s = evL C (.seq f34r2 (.seq (.cond (.tmp 9) .skip (.exit 0)) (.seq (.block 1 (.seq f34r3 (.seq f34r4 (.cond (.tmp 19) (.seq f34r5 .ret) .skip)))) f34r6))) s := rfl
abbrev f34o7 : List (Nat × Pop) := [
  (0, ⟨(some 21), .fad 6 (.tmp 1), none⟩),
  (1, ⟨(some 22), .load false 1 (.tmp 21), none⟩),
  (2, ⟨(some 23), .lenL (.tmp 22), none⟩),
  (3, ⟨(some 24), .bin .leq (.tmp 23) (.c (.t (.i .i64 60))), none⟩),
  (4, ⟨(some 25), .mv (.tmp 24), none⟩),
  (5, ⟨(some 26), .fad 5 (.tmp 1), (some (25, true))⟩),
  (6, ⟨(some 27), .load false 1 (.tmp 26), (some (25, true))⟩),
  (7, ⟨(some 28), .lenL (.tmp 27), (some (25, true))⟩),
  (8, ⟨(some 29), .bin .leq (.tmp 28) (.c (.t (.i .i64 60))), (some (25, true))⟩),
  (9, ⟨(some 30), .pick (.tmp 25) (.tmp 29) (.c (.t (.b false))), none⟩),
  (10, ⟨(some 2), .mv (.tmp 30), none⟩)]
abbrev f34r7 : Pc := .reg f34o7 [2] [1]
abbrev f34b : Pc := (.seq f34r0 (.seq (.seq f34r1 (.block 0 (.loop f34l0))) (.seq f34r7 .ret)))
abbrev f34 : Pfn := ⟨1, 31, [.tmp 2], f34b⟩
def f34K : Array (List Nat) := #[[1], [1, 6, 7, 8], [1, 6, 7, 8, 9], [1, 3, 4, 6, 7, 8], [1, 6, 7, 8, 19], [2], [1, 6, 7, 8], [2]]
def f34H : Array (List Nat) := #[[], [], [], [], [], [1], [], [1]]
def f34A : Ann := ⟨fun r => f34K.getD r [], fun r => f34H.getD r [], fun r i => ([] : List (Nat × Nat)).contains (r, i)⟩
theorem f34C : compF Go.Proofs.Try.prog f34A 34 = some f34 := by kernel_rfl

/-- switchboard/move.Piece -/
abbrev f35o0 : List (Nat × Pop) := [
  (0, ⟨(some 3), .box 48 7 (.tmp 0), none⟩),
  (1, ⟨(some 6), .alloc 48 [(.t (.i .i64 0)), (.t (.i .i64 0)), (.t (.i .i64 0)), (.t (.i .i64 0)), (.t (.i .i64 0)), .nl, .nl], none⟩),
  (2, ⟨(some 7), .mv (.c (.t (.i .i64 0))), none⟩)]
abbrev f35r0 : Pc := .reg f35o0 [1, 2, 3, 6] []
abbrev f35o1 : List (Nat × Pop) := [
  (0, ⟨(some 9), .fad 3 (.tmp 3), none⟩),
  (1, ⟨(some 10), .load false 1 (.tmp 9), none⟩),
  (2, ⟨(some 11), .bin .neq (.tmp 10) (.c (.t (.i .i64 1))), none⟩),
  (3, ⟨(some 12), .mv (.tmp 11), none⟩),
  (4, ⟨(some 13), .fad 5 (.tmp 3), (some (12, false))⟩),
  (5, ⟨(some 14), .load false 1 (.tmp 13), (some (12, false))⟩),
  (6, ⟨(some 15), .lenL (.tmp 14), (some (12, false))⟩),
  (7, ⟨(some 16), .fad 6 (.tmp 3), (some (12, false))⟩),
  (8, ⟨(some 17), .load false 1 (.tmp 16), (some (12, false))⟩),
  (9, ⟨(some 18), .lenL (.tmp 17), (some (12, false))⟩),
  (10, ⟨(some 19), .bin .neq (.tmp 15) (.tmp 18), (some (12, false))⟩),
  (11, ⟨(some 20), .pick (.tmp 12) (.c (.t (.b true))) (.tmp 19), none⟩),
  (12, ⟨(some 21), .mv (.tmp 20), none⟩),
  (13, ⟨(some 22), .mv (.tmp 1), (some (21, false))⟩),
  (14, ⟨(some 23), .bin .lss (.tmp 22) (.c (.t (.i .i64 0))), (some (21, false))⟩),
  (15, ⟨(some 24), .pick (.tmp 21) (.c (.t (.b true))) (.tmp 23), none⟩),
  (16, ⟨(some 25), .mv (.tmp 24), none⟩),
  (17, ⟨(some 26), .mv (.tmp 1), (some (25, false))⟩),
  (18, ⟨(some 27), .fad 5 (.tmp 3), (some (25, false))⟩),
  (19, ⟨(some 28), .load false 1 (.tmp 27), (some (25, false))⟩),
  (20, ⟨(some 29), .lenL (.tmp 28), (some (25, false))⟩),
  (21, ⟨(some 30), .bin .geq (.tmp 26) (.tmp 29), (some (25, false))⟩),
  (22, ⟨(some 31), .pick (.tmp 25) (.c (.t (.b true))) (.tmp 30), none⟩),
  (23, ⟨(some 8), .mv (.tmp 31), none⟩)]
abbrev f35r1 : Pc := .reg f35o1 [1, 2, 3, 6, 8] []
abbrev f35o2 : List (Nat × Pop) := [
  (0, ⟨(some 32), .load true 7 (.tmp 3), none⟩),
  (1, ⟨none, .store 7 (.tmp 6) (.tmp 32), none⟩),
  (2, ⟨(some 7), .mv (.c (.t (.i .i64 1))), none⟩)]
abbrev f35r2 : Pc := .reg f35o2 [6, 7] [3]
abbrev f35o3 : List (Nat × Pop) := [
  (0, ⟨(some 34), .fad 5 (.tmp 3), none⟩),
  (1, ⟨(some 35), .load false 1 (.tmp 34), none⟩),
  (2, ⟨(some 36), .mv (.tmp 1), none⟩),
  (3, ⟨(some 37), .ixS 1 (.tmp 35) (.tmp 36), none⟩),
  (4, ⟨(some 38), .load false 1 (.tmp 37), none⟩),
  (5, ⟨(some 33), .mv (.tmp 38), none⟩)]
abbrev f35r3 : Pc := .reg f35o3 [1, 2, 3, 6, 33] []
abbrev f35o4 : List (Nat × Pop) := [
  (0, ⟨(some 39), .load true 7 (.tmp 3), none⟩),
  (1, ⟨none, .store 7 (.tmp 6) (.tmp 39), none⟩),
  (2, ⟨(some 7), .mv (.c (.t (.i .i64 5))), none⟩)]
abbrev f35r4 : Pc := .reg f35o4 [6, 7] [3]
abbrev f35o5 : List (Nat × Pop) := [
  (0, ⟨(some 40), .fad 5 (.tmp 3), none⟩),
  (1, ⟨(some 41), .load false 1 (.tmp 40), none⟩),
  (2, ⟨(some 42), .callo 53 [(.tmp 41)], none⟩),
  (3, ⟨(some 43), .fad 6 (.tmp 3), none⟩),
  (4, ⟨(some 44), .loadB false 1 (.tmp 43), none⟩),
  (5, ⟨(some 45), .callo 54 [(.tmp 44)], none⟩),
  (6, ⟨(some 46), .fad 5 (.tmp 3), none⟩),
  (7, ⟨none, .store 1 (.tmp 46) (.tmp 42), none⟩),
  (8, ⟨(some 47), .fad 6 (.tmp 3), none⟩),
  (9, ⟨none, .store 1 (.tmp 47) (.tmp 45), none⟩)]
abbrev f35r5 : Pc := .reg f35o5 [1, 2, 3, 6] []
abbrev f35o6 : List (Nat × Pop) := [
  (0, ⟨(some 48), .fad 5 (.tmp 3), none⟩),
  (1, ⟨(some 49), .load false 1 (.tmp 48), none⟩),
  (2, ⟨(some 50), .mv (.tmp 1), none⟩),
  (3, ⟨(some 51), .fad 6 (.tmp 3), none⟩),
  (4, ⟨(some 52), .loadB false 1 (.tmp 51), none⟩),
  (5, ⟨(some 53), .mv (.tmp 1), none⟩),
  (6, ⟨(some 54), .mv (.tmp 2), none⟩),
  (7, ⟨(some 55), .ixS 1 (.tmp 49) (.tmp 50), none⟩),
  (8, ⟨none, .storeR 1 (.tmp 55) (.c (.t (.b true))), none⟩),
  (9, ⟨(some 56), .ixS 1 (.tmp 52) (.tmp 53), none⟩),
  (10, ⟨none, .store 1 (.tmp 56) (.tmp 54), none⟩)]
abbrev f35r6 : Pc := .reg f35o6 [3, 6] []
abbrev f35o7 : List (Nat × Pop) := [
  (0, ⟨(some 57), .fad 5 (.tmp 3), none⟩),
  (1, ⟨(some 58), .load false 1 (.tmp 57), none⟩),
  (2, ⟨(some 59), .call 55 [(.tmp 58), (.c (.t (.b false)))], none⟩)]
abbrev f35r7 : Pc := .reg f35o7 [3, 6, 59] []
abbrev f35o8 : List (Nat × Pop) := [
  (0, ⟨(some 60), .load true 7 (.tmp 3), none⟩),
  (1, ⟨none, .store 7 (.tmp 6) (.tmp 60), none⟩),
  (2, ⟨(some 7), .mv (.c (.t (.i .i64 0))), none⟩)]
abbrev f35r8 : Pc := .reg f35o8 [6, 7] [3]
abbrev f35o9 : List (Nat × Pop) := [
  (0, ⟨(some 61), .fad 6 (.tmp 3), none⟩),
  (1, ⟨(some 62), .load false 1 (.tmp 61), none⟩),
  (2, ⟨(some 63), .callq 56 [(.tmp 62)], none⟩),
  (3, ⟨(some 64), .callq 51 [(.tmp 63)], none⟩),
  (4, ⟨(some 65), .fad 4 (.tmp 3), none⟩),
  (5, ⟨(some 66), .load false 1 (.tmp 65), none⟩),
  (6, ⟨(some 67), .bin .neq (.tmp 64) (.tmp 66), none⟩)]
abbrev f35r9 : Pc := .reg f35o9 [3, 6, 67] []
abbrev f35o10 : List (Nat × Pop) := [
  (0, ⟨(some 68), .fad 3 (.tmp 3), none⟩),
  (1, ⟨none, .store 1 (.tmp 68) (.c (.t (.i .i64 4))), none⟩)]
abbrev f35r10 : Pc := .reg f35o10 [3, 6] []
abbrev f35o11 : List (Nat × Pop) := [
  (0, ⟨(some 69), .load true 7 (.tmp 3), none⟩),
  (1, ⟨none, .store 7 (.tmp 6) (.tmp 69), none⟩),
  (2, ⟨(some 7), .mv (.c (.t (.i .i64 9))), none⟩)]
abbrev f35r11 : Pc := .reg f35o11 [6, 7] [3]
abbrev f35o12 : List (Nat × Pop) := [
  (0, ⟨(some 70), .fad 3 (.tmp 3), none⟩),
  (1, ⟨none, .store 1 (.tmp 70) (.c (.t (.i .i64 2))), none⟩)]
abbrev f35r12 : Pc := .reg f35o12 [3, 6] []
abbrev f35o13 : List (Nat × Pop) := [
  (0, ⟨(some 71), .load true 7 (.tmp 3), none⟩),
  (1, ⟨none, .store 7 (.tmp 6) (.tmp 71), none⟩),
  (2, ⟨(some 7), .mv (.c (.t (.i .i64 0))), none⟩)]
abbrev f35r13 : Pc := .reg f35o13 [6, 7] [3]
abbrev f35b : Pc := (.seq f35r0 (.seq (.block 0 (.seq f35r1 (.cond (.tmp 8) (.seq f35r2 .ret) (.seq f35r3 (.cond (.tmp 33) (.seq f35r4 .ret) .skip))))) (.seq f35r5 (.seq f35r6 (.seq (.seq f35r7 (.cond (.tmp 59) (.seq f35r8 .ret) .skip)) (.seq (.seq f35r9 (.cond (.tmp 67) (.seq f35r10 (.seq f35r11 .ret)) .skip)) (.seq f35r12 (.seq f35r13 .ret))))))))
abbrev f35 : Pfn := ⟨3, 72, [.cell 6 true 7, .tmp 7], f35b⟩
def f35K : Array (List Nat) := #[[1, 2, 3, 6], [1, 2, 3, 6, 8], [6, 7], [1, 2, 3, 6, 33], [6, 7], [1, 2, 3, 6], [3, 6], [3, 6, 59], [6, 7], [3, 6, 67], [3, 6], [6, 7], [3, 6], [6, 7]]
def f35H : Array (List Nat) := #[[], [], [3], [], [3], [], [], [], [3], [], [], [3], [], [3]]
def f35A : Ann := ⟨fun r => f35K.getD r [], fun r => f35H.getD r [], fun r i => ([(6, 8), (6, 4), (5, 2), (5, 5), (5, 4)] : List (Nat × Nat)).contains (r, i)⟩
theorem f35C : compF Go.Proofs.Try.prog f35A 35 = some f35 := by kernel_rfl

/-- switchboard/switchboardref22.Piece -/
abbrev f36o0 : List (Nat × Pop) := [
  (0, ⟨(some 3), .box 51 7 (.tmp 0), none⟩),
  (1, ⟨(some 6), .alloc 51 [(.t (.i .i64 0)), (.t (.i .i64 0)), (.t (.i .i64 0)), (.t (.i .i64 0)), (.t (.i .i64 0)), .nl, .nl], none⟩),
  (2, ⟨(some 7), .mv (.c (.t (.i .i64 0))), none⟩)]
abbrev f36r0 : Pc := .reg f36o0 [1, 2, 3, 6] []
abbrev f36o1 : List (Nat × Pop) := [
  (0, ⟨(some 11), .fad 3 (.tmp 3), none⟩),
  (1, ⟨(some 12), .load false 1 (.tmp 11), none⟩),
  (2, ⟨(some 13), .bin .neq (.tmp 12) (.c (.t (.i .i64 1))), none⟩),
  (3, ⟨(some 14), .mv (.tmp 13), none⟩),
  (4, ⟨(some 15), .fad 5 (.tmp 3), (some (14, false))⟩),
  (5, ⟨(some 16), .load false 1 (.tmp 15), (some (14, false))⟩),
  (6, ⟨(some 17), .lenL (.tmp 16), (some (14, false))⟩),
  (7, ⟨(some 18), .fad 6 (.tmp 3), (some (14, false))⟩),
  (8, ⟨(some 19), .load false 1 (.tmp 18), (some (14, false))⟩),
  (9, ⟨(some 20), .lenL (.tmp 19), (some (14, false))⟩),
  (10, ⟨(some 21), .bin .neq (.tmp 17) (.tmp 20), (some (14, false))⟩),
  (11, ⟨(some 22), .pick (.tmp 14) (.c (.t (.b true))) (.tmp 21), none⟩),
  (12, ⟨(some 23), .mv (.tmp 22), none⟩),
  (13, ⟨(some 24), .mv (.tmp 1), (some (23, false))⟩),
  (14, ⟨(some 25), .bin .lss (.tmp 24) (.c (.t (.i .i64 0))), (some (23, false))⟩),
  (15, ⟨(some 26), .pick (.tmp 23) (.c (.t (.b true))) (.tmp 25), none⟩),
  (16, ⟨(some 27), .mv (.tmp 26), none⟩),
  (17, ⟨(some 28), .mv (.tmp 1), (some (27, false))⟩),
  (18, ⟨(some 29), .fad 5 (.tmp 3), (some (27, false))⟩),
  (19, ⟨(some 30), .load false 1 (.tmp 29), (some (27, false))⟩),
  (20, ⟨(some 31), .lenL (.tmp 30), (some (27, false))⟩),
  (21, ⟨(some 32), .bin .geq (.tmp 28) (.tmp 31), (some (27, false))⟩),
  (22, ⟨(some 33), .pick (.tmp 27) (.c (.t (.b true))) (.tmp 32), none⟩)]
abbrev f36r1 : Pc := .reg f36o1 [1, 2, 3, 6, 33] []
abbrev f36o2 : List (Nat × Pop) := [
  (0, ⟨(some 34), .load true 7 (.tmp 3), none⟩),
  (1, ⟨none, .store 7 (.tmp 6) (.tmp 34), none⟩),
  (2, ⟨(some 7), .mv (.c (.t (.i .i64 1))), none⟩)]
abbrev f36r2 : Pc := .reg f36o2 [6, 7] [3]
abbrev f36o3 : List (Nat × Pop) := [
  (0, ⟨(some 35), .fad 5 (.tmp 3), none⟩),
  (1, ⟨(some 36), .load false 1 (.tmp 35), none⟩),
  (2, ⟨(some 37), .mv (.tmp 1), none⟩),
  (3, ⟨(some 38), .ixS 1 (.tmp 36) (.tmp 37), none⟩),
  (4, ⟨(some 39), .load false 1 (.tmp 38), none⟩)]
abbrev f36r3 : Pc := .reg f36o3 [1, 2, 3, 6, 39] []
abbrev f36o4 : List (Nat × Pop) := [
  (0, ⟨(some 40), .load true 7 (.tmp 3), none⟩),
  (1, ⟨none, .store 7 (.tmp 6) (.tmp 40), none⟩),
  (2, ⟨(some 7), .mv (.c (.t (.i .i64 5))), none⟩)]
abbrev f36r4 : Pc := .reg f36o4 [6, 7] [3]
abbrev f36o5 : List (Nat × Pop) := [
  (0, ⟨(some 41), .load true 7 (.tmp 3), none⟩),
  (1, ⟨(some 8), .alloc 51 [(.t (.i .i64 0)), (.t (.i .i64 0)), (.t (.i .i64 0)), (.t (.i .i64 0)), (.t (.i .i64 0)), .nl, .nl], none⟩),
  (2, ⟨none, .store 7 (.tmp 8) (.tmp 41), none⟩)]
abbrev f36r5 : Pc := .reg f36o5 [1, 2, 3, 6, 8] []
abbrev f36o6 : List (Nat × Pop) := [
  (0, ⟨(some 42), .fad 5 (.tmp 8), none⟩),
  (1, ⟨none, .store 1 (.tmp 42) (.c .nl), none⟩),
  (2, ⟨(some 43), .fad 6 (.tmp 8), none⟩),
  (3, ⟨none, .store 1 (.tmp 43) (.c .nl), none⟩)]
abbrev f36r6 : Pc := .reg f36o6 [1, 2, 3, 6, 8] []
abbrev f36o7 : List (Nat × Pop) := [
  (0, ⟨(some 9), .mv (.c (.t (.b true))), none⟩)]
abbrev f36r7 : Pc := .reg f36o7 [1, 2, 3, 6, 8, 9] []
abbrev f36o8 : List (Nat × Pop) := [
  (0, ⟨(some 10), .mv (.c (.t (.i .i64 0))), none⟩)]
abbrev f36r8 : Pc := .reg f36o8 [1, 2, 3, 6, 8, 9, 10] []
abbrev f36o9 : List (Nat × Pop) := [
  (0, ⟨(some 44), .mv (.tmp 10), none⟩),
  (1, ⟨(some 45), .fad 5 (.tmp 3), none⟩),
  (2, ⟨(some 46), .load false 1 (.tmp 45), none⟩),
  (3, ⟨(some 47), .lenL (.tmp 46), none⟩),
  (4, ⟨(some 48), .bin .lss (.tmp 44) (.tmp 47), none⟩)]
abbrev f36r9 : Pc := .reg f36o9 [1, 2, 3, 6, 8, 9, 10, 48] []
abbrev f36o11 : List (Nat × Pop) := [
  (0, ⟨(some 51), .mv (.tmp 10), none⟩),
  (1, ⟨(some 52), .mv (.tmp 1), none⟩),
  (2, ⟨(some 53), .bin .eql (.tmp 51) (.tmp 52), none⟩)]
abbrev f36r11 : Pc := .reg f36o11 [1, 2, 3, 6, 8, 9, 10, 53] []
abbrev f36o12 : List (Nat × Pop) := [
  (0, ⟨(some 54), .fad 5 (.tmp 8), none⟩),
  (1, ⟨(some 55), .load false 1 (.tmp 54), none⟩),
  (2, ⟨(some 56), .bslT 1 [(.c (.t (.b true)))], none⟩),
  (3, ⟨(some 57), .app 4 1 1 (.tmp 55) (.tmp 56), none⟩),
  (4, ⟨(some 58), .fad 5 (.tmp 8), none⟩),
  (5, ⟨none, .store 1 (.tmp 58) (.tmp 57), none⟩)]
abbrev f36r12 : Pc := .reg f36o12 [1, 2, 3, 6, 8, 9, 10] []
abbrev f36o13 : List (Nat × Pop) := [
  (0, ⟨(some 59), .fad 6 (.tmp 8), none⟩),
  (1, ⟨(some 60), .load false 1 (.tmp 59), none⟩),
  (2, ⟨(some 61), .mv (.tmp 2), none⟩),
  (3, ⟨(some 62), .bslT 1 [(.tmp 61)], none⟩),
  (4, ⟨(some 63), .app 9 1 16 (.tmp 60) (.tmp 62), none⟩),
  (5, ⟨(some 64), .fad 6 (.tmp 8), none⟩),
  (6, ⟨none, .store 1 (.tmp 64) (.tmp 63), none⟩)]
abbrev f36r13 : Pc := .reg f36o13 [1, 2, 3, 6, 8, 9, 10] []
abbrev f36o14 : List (Nat × Pop) := [
  (0, ⟨(some 65), .fad 5 (.tmp 8), none⟩),
  (1, ⟨(some 66), .load false 1 (.tmp 65), none⟩),
  (2, ⟨(some 67), .fad 5 (.tmp 3), none⟩),
  (3, ⟨(some 68), .load false 1 (.tmp 67), none⟩),
  (4, ⟨(some 69), .mv (.tmp 10), none⟩),
  (5, ⟨(some 70), .ixS 1 (.tmp 68) (.tmp 69), none⟩),
  (6, ⟨(some 71), .load false 1 (.tmp 70), none⟩),
  (7, ⟨(some 72), .bslF 1 [(.tmp 71)], none⟩),
  (8, ⟨(some 73), .app 4 1 1 (.tmp 66) (.tmp 72), none⟩),
  (9, ⟨(some 74), .fad 5 (.tmp 8), none⟩),
  (10, ⟨none, .store 1 (.tmp 74) (.tmp 73), none⟩)]
abbrev f36r14 : Pc := .reg f36o14 [1, 2, 3, 6, 8, 9, 10] []
abbrev f36o15 : List (Nat × Pop) := [
  (0, ⟨(some 75), .fad 6 (.tmp 8), none⟩),
  (1, ⟨(some 76), .load false 1 (.tmp 75), none⟩),
  (2, ⟨(some 77), .fad 6 (.tmp 3), none⟩),
  (3, ⟨(some 78), .load false 1 (.tmp 77), none⟩),
  (4, ⟨(some 79), .mv (.tmp 10), none⟩),
  (5, ⟨(some 80), .ixS 1 (.tmp 78) (.tmp 79), none⟩),
  (6, ⟨(some 81), .load false 1 (.tmp 80), none⟩),
  (7, ⟨(some 82), .bslF 1 [(.tmp 81)], none⟩),
  (8, ⟨(some 83), .app 9 1 16 (.tmp 76) (.tmp 82), none⟩),
  (9, ⟨(some 84), .fad 6 (.tmp 8), none⟩),
  (10, ⟨none, .store 1 (.tmp 84) (.tmp 83), none⟩)]
abbrev f36r15 : Pc := .reg f36o15 [1, 2, 3, 6, 8, 9, 10] []
abbrev f36o16 : List (Nat × Pop) := [
  (0, ⟨(some 85), .mv (.tmp 9), none⟩),
  (1, ⟨(some 86), .mv (.tmp 85), none⟩),
  (2, ⟨(some 87), .fad 5 (.tmp 3), (some (86, true))⟩),
  (3, ⟨(some 88), .load false 1 (.tmp 87), (some (86, true))⟩),
  (4, ⟨(some 89), .mv (.tmp 10), (some (86, true))⟩),
  (5, ⟨(some 90), .ixS 1 (.tmp 88) (.tmp 89), (some (86, true))⟩),
  (6, ⟨(some 91), .load false 1 (.tmp 90), (some (86, true))⟩),
  (7, ⟨(some 92), .pick (.tmp 86) (.tmp 91) (.c (.t (.b false))), none⟩),
  (8, ⟨(some 9), .mv (.tmp 92), none⟩)]
abbrev f36r16 : Pc := .reg f36o16 [1, 2, 3, 6, 8, 9, 10] []
abbrev f36o10 : List (Nat × Pop) := [
  (0, ⟨(some 49), .mv (.tmp 10), none⟩),
  (1, ⟨(some 50), .bin .add (.tmp 49) (.c (.t (.i .i64 1))), none⟩),
  (2, ⟨(some 10), .mv (.tmp 50), none⟩)]
abbrev f36r10 : Pc := .reg f36o10 [1, 2, 3, 6, 8, 9, 10] []
def f36l0 : Pc := (.seq (.seq f36r9 (.cond (.tmp 48) .skip (.exit 0))) (.seq (.block 1 (.seq f36r11 (.cond (.tmp 53) (.seq f36r12 f36r13) (.seq f36r14 (.seq f36r15 f36r16))))) f36r10))
theorem f36l0e (C : Cfg) (s : St) : evL C f36l0 s = evL C (.seq (.seq f36r9 (.cond (.tmp 48) .skip (.exit 0))) (.seq (.block 1 (.seq f36r11 (.cond (.tmp 53) (.seq f36r12 f36r13) (.seq f36r14 (.seq f36r15 f36r16))))) f36r10)) s := rfl
abbrev f36o17 : List (Nat × Pop) := [
  (0, ⟨(some 93), .mv (.tmp 9), none⟩),
  (1, ⟨(some 94), .un .not (.tmp 93), none⟩)]
abbrev f36r17 : Pc := .reg f36o17 [3, 6, 8, 94] []
abbrev f36o18 : List (Nat × Pop) := [
  (0, ⟨(some 95), .load true 7 (.tmp 8), none⟩),
  (1, ⟨none, .store 7 (.tmp 6) (.tmp 95), none⟩),
  (2, ⟨(some 7), .mv (.c (.t (.i .i64 0))), none⟩)]
abbrev f36r18 : Pc := .reg f36o18 [6, 7] [3, 8]
abbrev f36o19 : List (Nat × Pop) := [
  (0, ⟨(some 96), .fad 6 (.tmp 8), none⟩),
  (1, ⟨(some 97), .load false 1 (.tmp 96), none⟩),
  (2, ⟨(some 98), .callq 38 [(.tmp 97)], none⟩),
  (3, ⟨(some 99), .callq 52 [(.tmp 98)], none⟩),
  (4, ⟨(some 100), .fad 4 (.tmp 3), none⟩),
  (5, ⟨(some 101), .load false 1 (.tmp 100), none⟩),
  (6, ⟨(some 102), .bin .neq (.tmp 99) (.tmp 101), none⟩)]
abbrev f36r19 : Pc := .reg f36o19 [6, 8, 102] [3]
abbrev f36o20 : List (Nat × Pop) := [
  (0, ⟨(some 103), .fad 3 (.tmp 8), none⟩),
  (1, ⟨none, .store 1 (.tmp 103) (.c (.t (.i .i64 4))), none⟩)]
abbrev f36r20 : Pc := .reg f36o20 [6, 8] []
abbrev f36o21 : List (Nat × Pop) := [
  (0, ⟨(some 104), .load true 7 (.tmp 8), none⟩),
  (1, ⟨none, .store 7 (.tmp 6) (.tmp 104), none⟩),
  (2, ⟨(some 7), .mv (.c (.t (.i .i64 9))), none⟩)]
abbrev f36r21 : Pc := .reg f36o21 [6, 7] [8]
abbrev f36o22 : List (Nat × Pop) := [
  (0, ⟨(some 105), .fad 3 (.tmp 8), none⟩),
  (1, ⟨none, .store 1 (.tmp 105) (.c (.t (.i .i64 2))), none⟩)]
abbrev f36r22 : Pc := .reg f36o22 [6, 8] []
abbrev f36o23 : List (Nat × Pop) := [
  (0, ⟨(some 106), .load true 7 (.tmp 8), none⟩),
  (1, ⟨none, .store 7 (.tmp 6) (.tmp 106), none⟩),
  (2, ⟨(some 7), .mv (.c (.t (.i .i64 0))), none⟩)]
abbrev f36r23 : Pc := .reg f36o23 [6, 7] [8]
abbrev f36b : Pc := (.seq f36r0 (.seq (.seq f36r1 (.cond (.tmp 33) (.seq f36r2 .ret) .skip)) (.seq (.seq f36r3 (.cond (.tmp 39) (.seq f36r4 .ret) .skip)) (.seq f36r5 (.seq f36r6 (.seq f36r7 (.seq (.seq f36r8 (.block 0 (.loop f36l0))) (.seq (.seq f36r17 (.cond (.tmp 94) (.seq f36r18 .ret) .skip)) (.seq (.seq f36r19 (.cond (.tmp 102) (.seq f36r20 (.seq f36r21 .ret)) .skip)) (.seq f36r22 (.seq f36r23 .ret)))))))))))
abbrev f36 : Pfn := ⟨3, 107, [.cell 6 true 7, .tmp 7], f36b⟩
def f36K : Array (List Nat) := #[[1, 2, 3, 6], [1, 2, 3, 6, 33], [6, 7], [1, 2, 3, 6, 39], [6, 7], [1, 2, 3, 6, 8], [1, 2, 3, 6, 8], [1, 2, 3, 6, 8, 9], [1, 2, 3, 6, 8, 9, 10], [1, 2, 3, 6, 8, 9, 10, 48], [1, 2, 3, 6, 8, 9, 10], [1, 2, 3, 6, 8, 9, 10, 53], [1, 2, 3, 6, 8, 9, 10], [1, 2, 3, 6, 8, 9, 10], [1, 2, 3, 6, 8, 9, 10], [1, 2, 3, 6, 8, 9, 10], [1, 2, 3, 6, 8, 9, 10], [3, 6, 8, 94], [6, 7], [6, 8, 102], [6, 8], [6, 7], [6, 8], [6, 7]]
def f36H : Array (List Nat) := #[[], [], [3], [], [3], [], [], [], [], [], [], [], [], [], [], [], [], [], [3, 8], [3], [], [8], [], [8]]
def f36A : Ann := ⟨fun r => f36K.getD r [], fun r => f36H.getD r [], fun r i => ([] : List (Nat × Nat)).contains (r, i)⟩
theorem f36C : compF Go.Proofs.Try.prog f36A 36 = some f36 := by kernel_rfl

/-- switchboard/move.Text -/
abbrev f37o0 : List (Nat × Pop) := [
  (0, ⟨(some 1), .box 48 7 (.tmp 0), none⟩),
  (1, ⟨(some 2), .mv (.c (.t (.s []))), none⟩),
  (2, ⟨(some 3), .mv (.c (.t (.b false))), none⟩)]
abbrev f37r0 : Pc := .reg f37o0 [1] []
abbrev f37o1 : List (Nat × Pop) := [
  (0, ⟨(some 4), .fad 3 (.tmp 1), none⟩),
  (1, ⟨(some 5), .load false 1 (.tmp 4), none⟩),
  (2, ⟨(some 6), .bin .neq (.tmp 5) (.c (.t (.i .i64 2))), none⟩),
  (3, ⟨(some 7), .mv (.tmp 6), none⟩),
  (4, ⟨(some 8), .fad 3 (.tmp 1), (some (7, true))⟩),
  (5, ⟨(some 9), .load false 1 (.tmp 8), (some (7, true))⟩),
  (6, ⟨(some 10), .bin .neq (.tmp 9) (.c (.t (.i .i64 3))), (some (7, true))⟩),
  (7, ⟨(some 11), .pick (.tmp 7) (.tmp 10) (.c (.t (.b false))), none⟩)]
abbrev f37r1 : Pc := .reg f37o1 [1, 11] []
abbrev f37o2 : List (Nat × Pop) := [
  (0, ⟨(some 2), .mv (.c (.t (.s []))), none⟩),
  (1, ⟨(some 3), .mv (.c (.t (.b false))), none⟩)]
abbrev f37r2 : Pc := .reg f37o2 [2, 3] [1]
abbrev f37o3 : List (Nat × Pop) := [
  (0, ⟨(some 12), .fad 6 (.tmp 1), none⟩),
  (1, ⟨(some 13), .load false 1 (.tmp 12), none⟩),
  (2, ⟨(some 14), .call 56 [(.tmp 13)], none⟩),
  (3, ⟨(some 2), .mv (.tmp 14), none⟩),
  (4, ⟨(some 3), .mv (.c (.t (.b true))), none⟩)]
abbrev f37r3 : Pc := .reg f37o3 [2, 3] [1]
abbrev f37b : Pc := (.seq f37r0 (.seq (.seq f37r1 (.cond (.tmp 11) (.seq f37r2 .ret) .skip)) (.seq f37r3 .ret)))
abbrev f37 : Pfn := ⟨1, 15, [.tmp 2, .tmp 3], f37b⟩
def f37K : Array (List Nat) := #[[1], [1, 11], [2, 3], [2, 3]]
def f37H : Array (List Nat) := #[[], [], [1], [1]]
def f37A : Ann := ⟨fun r => f37K.getD r [], fun r => f37H.getD r [], fun r i => ([] : List (Nat × Nat)).contains (r, i)⟩
theorem f37C : compF Go.Proofs.Try.prog f37A 37 = some f37 := by kernel_rfl

/-- switchboard/switchboardref22.Join -/
abbrev f38o0 : List (Nat × Pop) := [
  (0, ⟨(some 2), .mv (.c (.t (.s []))), none⟩)]
abbrev f38r0 : Pc := .reg f38o0 [0] []
abbrev f38o1 : List (Nat × Pop) := [
  (0, ⟨(some 3), .mv (.c (.t (.s []))), none⟩)]
abbrev f38r1 : Pc := .reg f38o1 [0, 3] []
abbrev f38o2 : List (Nat × Pop) := [
  (0, ⟨(some 4), .mv (.c (.t (.i .i64 0))), none⟩)]
abbrev f38r2 : Pc := .reg f38o2 [0, 3, 4] []
abbrev f38o3 : List (Nat × Pop) := [
  (0, ⟨(some 5), .mv (.tmp 4), none⟩),
  (1, ⟨(some 6), .mv (.tmp 0), none⟩),
  (2, ⟨(some 7), .lenL (.tmp 6), none⟩),
  (3, ⟨(some 8), .bin .lss (.tmp 5) (.tmp 7), none⟩)]
abbrev f38r3 : Pc := .reg f38o3 [0, 3, 4, 8] []
abbrev f38o5 : List (Nat × Pop) := [
  (0, ⟨(some 11), .mv (.tmp 3), none⟩),
  (1, ⟨(some 12), .mv (.tmp 0), none⟩),
  (2, ⟨(some 13), .mv (.tmp 4), none⟩),
  (3, ⟨(some 14), .ixS 1 (.tmp 12) (.tmp 13), none⟩),
  (4, ⟨(some 15), .load false 1 (.tmp 14), none⟩),
  (5, ⟨(some 16), .bin .add (.tmp 11) (.tmp 15), none⟩),
  (6, ⟨(some 3), .mv (.tmp 16), none⟩)]
abbrev f38r5 : Pc := .reg f38o5 [0, 3, 4] []
abbrev f38o4 : List (Nat × Pop) := [
  (0, ⟨(some 9), .mv (.tmp 4), none⟩),
  (1, ⟨(some 10), .bin .add (.tmp 9) (.c (.t (.i .i64 1))), none⟩),
  (2, ⟨(some 4), .mv (.tmp 10), none⟩)]
abbrev f38r4 : Pc := .reg f38o4 [0, 3, 4] []
def f38l0 : Pc := (.seq (.seq f38r3 (.cond (.tmp 8) .skip (.exit 0))) (.seq (.block 1 f38r5) f38r4))
theorem f38l0e (C : Cfg) (s : St) : evL C f38l0 s = evL C (.seq (.seq f38r3 (.cond (.tmp 8) .skip (.exit 0))) (.seq (.block 1 f38r5) f38r4)) s := rfl
abbrev f38o6 : List (Nat × Pop) := [
  (0, ⟨(some 17), .mv (.tmp 3), none⟩),
  (1, ⟨(some 2), .mv (.tmp 17), none⟩)]
abbrev f38r6 : Pc := .reg f38o6 [2] []
abbrev f38b : Pc := (.seq f38r0 (.seq f38r1 (.seq (.seq f38r2 (.block 0 (.loop f38l0))) (.seq f38r6 .ret))))
abbrev f38 : Pfn := ⟨1, 18, [.tmp 2], f38b⟩
def f38K : Array (List Nat) := #[[0], [0, 3], [0, 3, 4], [0, 3, 4, 8], [0, 3, 4], [0, 3, 4], [2]]
def f38H : Array (List Nat) := #[[], [], [], [], [], [], []]
def f38A : Ann := ⟨fun r => f38K.getD r [], fun r => f38H.getD r [], fun r i => ([] : List (Nat × Nat)).contains (r, i)⟩
theorem f38C : compF Go.Proofs.Try.prog f38A 38 = some f38 := by kernel_rfl

/-- switchboard/switchboardlaw22.plain -/
abbrev f39o0 : List (Nat × Pop) := [
  (0, ⟨(some 0), .alloc 24 [(.t (.i .i64 0)), .nl], none⟩)]
abbrev f39r0 : Pc := .reg f39o0 [0] []
abbrev f39o1 : List (Nat × Pop) := [
  (0, ⟨(some 1), .bslT 1 [(.c (.t (.i .i64 1)))], none⟩),
  (1, ⟨(some 2), .bslT 1 [(.tmp 1)], none⟩),
  (2, ⟨(some 3), .build [(.t (.i .i64 0)), .nl] [(1, 1, (.tmp 2))], none⟩),
  (3, ⟨none, .store 2 (.tmp 0) (.tmp 3), none⟩)]
abbrev f39r1 : Pc := .reg f39o1 [0] []
abbrev f39b : Pc := (.seq f39r0 (.seq f39r1 .ret))
abbrev f39 : Pfn := ⟨0, 4, [.cell 0 true 2], f39b⟩
def f39K : Array (List Nat) := #[[0], [0]]
def f39H : Array (List Nat) := #[[], []]
def f39A : Ann := ⟨fun r => f39K.getD r [], fun r => f39H.getD r [], fun r i => ([] : List (Nat × Nat)).contains (r, i)⟩
theorem f39C : compF Go.Proofs.Try.prog f39A 39 = some f39 := by kernel_rfl

/-- switchboard/move.Commit -/
abbrev f40o0 : List (Nat × Pop) := [
  (0, ⟨(some 2), .box 48 7 (.tmp 0), none⟩),
  (1, ⟨(some 3), .box 24 2 (.tmp 1), none⟩),
  (2, ⟨(some 4), .alloc 48 [(.t (.i .i64 0)), (.t (.i .i64 0)), (.t (.i .i64 0)), (.t (.i .i64 0)), (.t (.i .i64 0)), .nl, .nl], none⟩),
  (3, ⟨(some 5), .alloc 24 [(.t (.i .i64 0)), .nl], none⟩),
  (4, ⟨(some 6), .mv (.c (.t (.i .i64 0))), none⟩)]
abbrev f40r0 : Pc := .reg f40o0 [2, 3, 4, 5] []
abbrev f40o1 : List (Nat × Pop) := [
  (0, ⟨(some 9), .fad 3 (.tmp 2), none⟩),
  (1, ⟨(some 10), .load false 1 (.tmp 9), none⟩),
  (2, ⟨(some 11), .bin .neq (.tmp 10) (.c (.t (.i .i64 2))), none⟩)]
abbrev f40r1 : Pc := .reg f40o1 [2, 3, 4, 5, 11] []
abbrev f40o2 : List (Nat × Pop) := [
  (0, ⟨(some 12), .load true 7 (.tmp 2), none⟩),
  (1, ⟨(some 13), .load true 2 (.tmp 3), none⟩),
  (2, ⟨none, .storeD 7 (.tmp 4) (.tmp 12) [3], none⟩),
  (3, ⟨none, .store 2 (.tmp 5) (.tmp 13), none⟩),
  (4, ⟨(some 6), .mv (.c (.t (.i .i64 1))), none⟩)]
abbrev f40r2 : Pc := .reg f40o2 [4, 5, 6] [2, 3]
abbrev f40o3 : List (Nat × Pop) := [
  (0, ⟨(some 15), .load true 2 (.tmp 3), none⟩),
  (1, ⟨(some 16), .fad 0 (.tmp 2), none⟩),
  (2, ⟨(some 17), .load false 1 (.tmp 16), none⟩),
  (3, ⟨(some 18), .fad 2 (.tmp 2), none⟩),
  (4, ⟨(some 19), .load false 1 (.tmp 18), none⟩),
  (5, ⟨(some 20), .call 18 [(.tmp 15), (.tmp 17), (.tmp 19)], none⟩),
  (6, ⟨(some 14), .mv (.tmp 20), none⟩),
  (7, ⟨(some 21), .ext 0 (.tmp 14), none⟩),
  (8, ⟨(some 22), .ext 1 (.tmp 14), none⟩),
  (9, ⟨(some 7), .alloc 24 [(.t (.i .i64 0)), .nl], none⟩),
  (10, ⟨none, .store 2 (.tmp 7) (.tmp 21), none⟩),
  (11, ⟨(some 8), .mv (.tmp 22), none⟩)]
abbrev f40r3 : Pc := .reg f40o3 [2, 3, 4, 5, 7, 8] []
abbrev f40o4 : List (Nat × Pop) := [
  (0, ⟨(some 23), .mv (.tmp 8), none⟩),
  (1, ⟨(some 24), .bin .neq (.tmp 23) (.c (.t (.i .i64 0))), none⟩)]
abbrev f40r4 : Pc := .reg f40o4 [2, 3, 4, 5, 7, 8, 24] []
abbrev f40o5 : List (Nat × Pop) := [
  (0, ⟨(some 25), .load true 7 (.tmp 2), none⟩),
  (1, ⟨(some 26), .load true 2 (.tmp 3), none⟩),
  (2, ⟨(some 27), .mv (.tmp 8), none⟩),
  (3, ⟨none, .storeD 7 (.tmp 4) (.tmp 25) [3], none⟩),
  (4, ⟨none, .store 2 (.tmp 5) (.tmp 26), none⟩),
  (5, ⟨(some 6), .mv (.tmp 27), none⟩)]
abbrev f40r5 : Pc := .reg f40o5 [4, 5, 6] [2, 3, 7]
abbrev f40o6 : List (Nat × Pop) := [
  (0, ⟨(some 28), .fad 3 (.tmp 2), none⟩),
  (1, ⟨none, .store 1 (.tmp 28) (.c (.t (.i .i64 3))), none⟩)]
abbrev f40r6 : Pc := .reg f40o6 [2, 4, 5, 7] [3]
abbrev f40o7 : List (Nat × Pop) := [
  (0, ⟨(some 29), .load true 7 (.tmp 2), none⟩),
  (1, ⟨(some 30), .load true 2 (.tmp 7), none⟩),
  (2, ⟨none, .storeD 7 (.tmp 4) (.tmp 29) [7], none⟩),
  (3, ⟨none, .store 2 (.tmp 5) (.tmp 30), none⟩),
  (4, ⟨(some 6), .mv (.c (.t (.i .i64 0))), none⟩)]
abbrev f40r7 : Pc := .reg f40o7 [4, 5, 6] [2, 7]
abbrev f40b : Pc := (.seq f40r0 (.seq (.seq f40r1 (.cond (.tmp 11) (.seq f40r2 .ret) .skip)) (.seq f40r3 (.seq (.seq f40r4 (.cond (.tmp 24) (.seq f40r5 .ret) .skip)) (.seq f40r6 (.seq f40r7 .ret))))))
abbrev f40 : Pfn := ⟨2, 31, [.cell 4 true 7, .cell 5 true 2, .tmp 6], f40b⟩
def f40K : Array (List Nat) := #[[2, 3, 4, 5], [2, 3, 4, 5, 11], [4, 5, 6], [2, 3, 4, 5, 7, 8], [2, 3, 4, 5, 7, 8, 24], [4, 5, 6], [2, 4, 5, 7], [4, 5, 6]]
def f40H : Array (List Nat) := #[[], [], [2, 3], [], [], [2, 3, 7], [3], [2, 7]]
def f40A : Ann := ⟨fun r => f40K.getD r [], fun r => f40H.getD r [], fun r i => ([] : List (Nat × Nat)).contains (r, i)⟩
theorem f40C : compF Go.Proofs.Try.prog f40A 40 = some f40 := by kernel_rfl

/-- switchboard/move.Abort -/
abbrev f41o0 : List (Nat × Pop) := [
  (0, ⟨(some 1), .box 48 7 (.tmp 0), none⟩),
  (1, ⟨(some 2), .alloc 48 [(.t (.i .i64 0)), (.t (.i .i64 0)), (.t (.i .i64 0)), (.t (.i .i64 0)), (.t (.i .i64 0)), .nl, .nl], none⟩),
  (2, ⟨(some 3), .mv (.c (.t (.i .i64 0))), none⟩)]
abbrev f41r0 : Pc := .reg f41o0 [1, 2] []
abbrev f41o1 : List (Nat × Pop) := [
  (0, ⟨(some 4), .fad 3 (.tmp 1), none⟩),
  (1, ⟨(some 5), .load false 1 (.tmp 4), none⟩),
  (2, ⟨(some 6), .bin .eql (.tmp 5) (.c (.t (.i .i64 3))), none⟩)]
abbrev f41r1 : Pc := .reg f41o1 [1, 2, 6] []
abbrev f41o2 : List (Nat × Pop) := [
  (0, ⟨(some 7), .load true 7 (.tmp 1), none⟩),
  (1, ⟨none, .store 7 (.tmp 2) (.tmp 7), none⟩),
  (2, ⟨(some 3), .mv (.c (.t (.i .i64 7))), none⟩)]
abbrev f41r2 : Pc := .reg f41o2 [2, 3] [1]
abbrev f41o3 : List (Nat × Pop) := [
  (0, ⟨(some 8), .fad 3 (.tmp 1), none⟩),
  (1, ⟨none, .store 1 (.tmp 8) (.c (.t (.i .i64 4))), none⟩)]
abbrev f41r3 : Pc := .reg f41o3 [1, 2] []
abbrev f41o4 : List (Nat × Pop) := [
  (0, ⟨(some 9), .load true 7 (.tmp 1), none⟩),
  (1, ⟨none, .store 7 (.tmp 2) (.tmp 9), none⟩),
  (2, ⟨(some 3), .mv (.c (.t (.i .i64 0))), none⟩)]
abbrev f41r4 : Pc := .reg f41o4 [2, 3] [1]
abbrev f41b : Pc := (.seq f41r0 (.seq (.seq f41r1 (.cond (.tmp 6) (.seq f41r2 .ret) .skip)) (.seq f41r3 (.seq f41r4 .ret))))
abbrev f41 : Pfn := ⟨1, 10, [.cell 2 true 7, .tmp 3], f41b⟩
def f41K : Array (List Nat) := #[[1, 2], [1, 2, 6], [2, 3], [1, 2], [2, 3]]
def f41H : Array (List Nat) := #[[], [], [1], [], [1]]
def f41A : Ann := ⟨fun r => f41K.getD r [], fun r => f41H.getD r [], fun r i => ([] : List (Nat × Nat)).contains (r, i)⟩
theorem f41C : compF Go.Proofs.Try.prog f41A 41 = some f41 := by kernel_rfl

/-- switchboard/chunk.Cut -/
abbrev f50o0 : List (Nat × Pop) := [
  (0, ⟨(some 4), .nilv 9 1, none⟩),
  (1, ⟨(some 5), .mv (.c (.t (.b false))), none⟩)]
abbrev f50r0 : Pc := .reg f50o0 [0, 1] [4, 6, 26]
abbrev f50o1 : List (Nat × Pop) := [
  (0, ⟨(some 8), .mv (.tmp 1), none⟩),
  (1, ⟨(some 9), .bin .lss (.tmp 8) (.c (.t (.i .i64 1))), none⟩),
  (2, ⟨(some 10), .mv (.tmp 9), none⟩),
  (3, ⟨(some 11), .mv (.tmp 1), (some (10, false))⟩),
  (4, ⟨(some 12), .bin .gtr (.tmp 11) (.c (.t (.i .i64 64))), (some (10, false))⟩),
  (5, ⟨(some 13), .pick (.tmp 10) (.c (.t (.b true))) (.tmp 12), none⟩)]
abbrev f50r1 : Pc := .reg f50o1 [0, 1, 13] []
abbrev f50o2 : List (Nat × Pop) := [
  (0, ⟨(some 4), .nilv 9 1, none⟩),
  (1, ⟨(some 5), .mv (.c (.t (.b false))), none⟩)]
abbrev f50r2 : Pc := .reg f50o2 [4, 5] []
abbrev f50o3 : List (Nat × Pop) := [
  (0, ⟨(some 6), .nilv 9 1, none⟩)]
abbrev f50r3 : Pc := .reg f50o3 [0, 1, 6] []
abbrev f50o4 : List (Nat × Pop) := [
  (0, ⟨(some 14), .mv (.tmp 0), none⟩),
  (1, ⟨(some 15), .lenS (.tmp 14), none⟩),
  (2, ⟨(some 16), .bin .gtr (.tmp 15) (.c (.t (.i .i64 0))), none⟩)]
abbrev f50r4 : Pc := .reg f50o4 [0, 1, 6, 16] []
abbrev f50o5 : List (Nat × Pop) := [
  (0, ⟨(some 17), .mv (.tmp 1), none⟩),
  (1, ⟨(some 18), .mv (.tmp 0), none⟩),
  (2, ⟨(some 19), .lenS (.tmp 18), none⟩),
  (3, ⟨(some 20), .mm false [(.tmp 17), (.tmp 19)], none⟩),
  (4, ⟨(some 7), .mv (.tmp 20), none⟩)]
abbrev f50r5 : Pc := .reg f50o5 [0, 1, 6, 7] []
abbrev f50o6 : List (Nat × Pop) := [
  (0, ⟨(some 21), .mv (.tmp 6), none⟩),
  (1, ⟨(some 22), .mv (.tmp 0), none⟩),
  (2, ⟨(some 23), .mv (.tmp 7), none⟩),
  (3, ⟨(some 24), .slS (.tmp 22) none (some (.tmp 23)), none⟩),
  (4, ⟨(some 25), .bslT 1 [(.tmp 24)], none⟩),
  (5, ⟨(some 26), .app 9 1 16 (.tmp 21) (.tmp 25), none⟩),
  (6, ⟨(some 6), .mv (.tmp 26), none⟩)]
abbrev f50r6 : Pc := .reg f50o6 [0, 1, 6, 7] []
abbrev f50o7 : List (Nat × Pop) := [
  (0, ⟨(some 27), .mv (.tmp 0), none⟩),
  (1, ⟨(some 28), .mv (.tmp 7), none⟩),
  (2, ⟨(some 29), .slS (.tmp 27) (some (.tmp 28)) none, none⟩),
  (3, ⟨(some 0), .mv (.tmp 29), none⟩)]
abbrev f50r7 : Pc := .reg f50o7 [0, 1, 6] []
def f50l0 : Pc := (.seq (.seq f50r4 (.cond (.tmp 16) .skip (.exit 0))) (.block 1 (.seq f50r5 (.seq f50r6 f50r7))))
theorem f50l0e (C : Cfg) (s : St) : evL C f50l0 s = evL C (.seq (.seq f50r4 (.cond (.tmp 16) .skip (.exit 0))) (.block 1 (.seq f50r5 (.seq f50r6 f50r7)))) s := rfl
abbrev f50o8 : List (Nat × Pop) := [
  (0, ⟨(some 30), .mv (.tmp 6), none⟩),
  (1, ⟨(some 4), .mv (.tmp 30), none⟩),
  (2, ⟨(some 5), .mv (.c (.t (.b true))), none⟩)]
abbrev f50r8 : Pc := .reg f50o8 [4, 5] []
abbrev f50b : Pc := (.seq f50r0 (.seq (.seq f50r1 (.cond (.tmp 13) (.seq f50r2 .ret) .skip)) (.seq f50r3 (.seq (.block 0 (.loop f50l0)) (.seq f50r8 .ret)))))
abbrev f50 : Pfn := ⟨2, 31, [.tmp 4, .tmp 5], f50b⟩
def f50K : Array (List Nat) := #[[0, 1], [0, 1, 13], [4, 5], [0, 1, 6], [0, 1, 6, 16], [0, 1, 6, 7], [0, 1, 6, 7], [0, 1, 6], [4, 5]]
def f50H : Array (List Nat) := #[[4, 6, 26], [], [], [], [], [], [], [], []]
def f50A : Ann := ⟨fun r => f50K.getD r [], fun r => f50H.getD r [], fun r i => ([] : List (Nat × Nat)).contains (r, i)⟩
theorem f50C : compF Go.Proofs.Try.prog f50A 50 = some f50 := by kernel_rfl

/-- switchboard/crc.Sum -/
abbrev f51o0 : List (Nat × Pop) := [
  (0, ⟨(some 2), .mv (.c (.t (.i .i64 0))), none⟩)]
abbrev f51r0 : Pc := .reg f51o0 [0] []
abbrev f51o1 : List (Nat × Pop) := [
  (0, ⟨(some 3), .mv (.c (.t (.i .u32 4294967295))), none⟩)]
abbrev f51r1 : Pc := .reg f51o1 [0, 3] []
abbrev f51o2 : List (Nat × Pop) := [
  (0, ⟨(some 7), .mv (.tmp 0), none⟩),
  (1, ⟨(some 8), .sbs 5 (.tmp 7), none⟩),
  (2, ⟨(some 9), .lenL (.tmp 8), none⟩),
  (3, ⟨(some 10), .mv (.c (.t (.i .i64 0))), none⟩)]
abbrev f51r2 : Pc := .reg f51o2 [3, 8, 9, 10] []
abbrev f51o3 : List (Nat × Pop) := [
  (0, ⟨(some 11), .bin .lss (.tmp 10) (.tmp 9), none⟩)]
abbrev f51r3 : Pc := .reg f51o3 [3, 8, 9, 10, 11] []
abbrev f51o4 : List (Nat × Pop) := [
  (0, ⟨(some 12), .ixS 1 (.tmp 8) (.tmp 10), none⟩),
  (1, ⟨(some 13), .load false 1 (.tmp 12), none⟩),
  (2, ⟨(some 5), .mv (.tmp 13), none⟩)]
abbrev f51r4 : Pc := .reg f51o4 [3, 5, 8, 9, 10] []
abbrev f51o5 : List (Nat × Pop) := [
  (0, ⟨(some 14), .mv (.tmp 3), none⟩),
  (1, ⟨(some 15), .mv (.tmp 5), none⟩),
  (2, ⟨(some 16), .cvi .u32 (.tmp 15), none⟩),
  (3, ⟨(some 17), .bin .xor (.tmp 14) (.tmp 16), none⟩),
  (4, ⟨(some 3), .mv (.tmp 17), none⟩)]
abbrev f51r5 : Pc := .reg f51o5 [3, 8, 9, 10] []
abbrev f51o6 : List (Nat × Pop) := [
  (0, ⟨(some 18), .mv (.c (.t (.i .i64 0))), none⟩)]
abbrev f51r6 : Pc := .reg f51o6 [3, 8, 9, 10, 18] []
abbrev f51o7 : List (Nat × Pop) := [
  (0, ⟨(some 19), .bin .lss (.tmp 18) (.c (.t (.i .i64 8))), none⟩)]
abbrev f51r7 : Pc := .reg f51o7 [3, 8, 9, 10, 18, 19] []
abbrev f51o8 : List (Nat × Pop) := [
  (0, ⟨(some 20), .mv (.tmp 3), none⟩),
  (1, ⟨(some 21), .bin .and (.tmp 20) (.c (.t (.i .u32 1))), none⟩),
  (2, ⟨(some 6), .mv (.tmp 21), none⟩)]
abbrev f51r8 : Pc := .reg f51o8 [3, 6, 8, 9, 10, 18] []
abbrev f51o9 : List (Nat × Pop) := [
  (0, ⟨(some 22), .mv (.tmp 3), none⟩),
  (1, ⟨(some 23), .bin .shr (.tmp 22) (.c (.t (.i .u64 1))), none⟩),
  (2, ⟨(some 3), .mv (.tmp 23), none⟩)]
abbrev f51r9 : Pc := .reg f51o9 [3, 6, 8, 9, 10, 18] []
abbrev f51o10 : List (Nat × Pop) := [
  (0, ⟨(some 24), .mv (.tmp 3), none⟩),
  (1, ⟨(some 25), .mv (.tmp 6), none⟩),
  (2, ⟨(some 26), .bin .mul (.c (.t (.i .u32 3988292384))) (.tmp 25), none⟩),
  (3, ⟨(some 27), .bin .xor (.tmp 24) (.tmp 26), none⟩),
  (4, ⟨(some 3), .mv (.tmp 27), none⟩)]
abbrev f51r10 : Pc := .reg f51o10 [3, 8, 9, 10, 18] []
abbrev f51o11 : List (Nat × Pop) := [
  (0, ⟨(some 28), .bin .add (.tmp 18) (.c (.t (.i .i64 1))), none⟩),
  (1, ⟨(some 18), .mv (.tmp 28), none⟩)]
abbrev f51r11 : Pc := .reg f51o11 [3, 8, 9, 10, 18] []
def f51l0 : Pc := (.seq f51r7 (.seq (.cond (.tmp 19) .skip (.exit 2)) (.seq (.block 3 (.seq f51r8 (.seq f51r9 f51r10))) f51r11)))
theorem f51l0e (C : Cfg) (s : St) : evL C f51l0 s = evL C (.seq f51r7 (.seq (.cond (.tmp 19) .skip (.exit 2)) (.seq (.block 3 (.seq f51r8 (.seq f51r9 f51r10))) f51r11))) s := rfl
abbrev f51o12 : List (Nat × Pop) := [
  (0, ⟨(some 29), .bin .add (.tmp 10) (.c (.t (.i .i64 1))), none⟩),
  (1, ⟨(some 10), .mv (.tmp 29), none⟩)]
abbrev f51r12 : Pc := .reg f51o12 [3, 8, 9, 10] []
def f51l1 : Pc := (.seq f51r3 (.seq (.cond (.tmp 11) .skip (.exit 0)) (.seq (.block 1 (.seq f51r4 (.seq f51r5 (.seq f51r6 (.block 2 (.loop f51l0)))))) f51r12)))
theorem f51l1e (C : Cfg) (s : St) : evL C f51l1 s = evL C (.seq f51r3 (.seq (.cond (.tmp 11) .skip (.exit 0)) (.seq (.block 1 (.seq f51r4 (.seq f51r5 (.seq f51r6 (.block 2 (.loop f51l0)))))) f51r12))) s := rfl
abbrev f51o13 : List (Nat × Pop) := [
  (0, ⟨(some 30), .mv (.tmp 3), none⟩),
  (1, ⟨(some 31), .bin .xor (.tmp 30) (.c (.t (.i .u32 4294967295))), none⟩),
  (2, ⟨(some 32), .cvi .i64 (.tmp 31), none⟩),
  (3, ⟨(some 2), .mv (.tmp 32), none⟩)]
abbrev f51r13 : Pc := .reg f51o13 [2] [8]
abbrev f51b : Pc := (.seq f51r0 (.seq f51r1 (.seq (.seq f51r2 (.block 0 (.loop f51l1))) (.seq f51r13 .ret))))
abbrev f51 : Pfn := ⟨1, 33, [.tmp 2], f51b⟩
def f51K : Array (List Nat) := #[[0], [0, 3], [3, 8, 9, 10], [3, 8, 9, 10, 11], [3, 5, 8, 9, 10], [3, 8, 9, 10], [3, 8, 9, 10, 18], [3, 8, 9, 10, 18, 19], [3, 6, 8, 9, 10, 18], [3, 6, 8, 9, 10, 18], [3, 8, 9, 10, 18], [3, 8, 9, 10, 18], [3, 8, 9, 10], [2]]
def f51H : Array (List Nat) := #[[], [], [], [], [], [], [], [], [], [], [], [], [], [8]]
def f51A : Ann := ⟨fun r => f51K.getD r [], fun r => f51H.getD r [], fun r i => ([] : List (Nat × Nat)).contains (r, i)⟩
theorem f51C : compF Go.Proofs.Try.prog f51A 51 = some f51 := by kernel_rfl

/-- switchboard/switchboardref06.Sum -/
abbrev f52o0 : List (Nat × Pop) := [
  (0, ⟨(some 2), .mv (.c (.t (.i .i64 0))), none⟩)]
abbrev f52r0 : Pc := .reg f52o0 [0] []
abbrev f52o1 : List (Nat × Pop) := [
  (0, ⟨(some 3), .mv (.c (.t (.i .i64 4294967295))), none⟩)]
abbrev f52r1 : Pc := .reg f52o1 [0, 3] []
abbrev f52o2 : List (Nat × Pop) := [
  (0, ⟨(some 4), .mv (.c (.t (.i .i64 0))), none⟩)]
abbrev f52r2 : Pc := .reg f52o2 [0, 3, 4] []
abbrev f52o3 : List (Nat × Pop) := [
  (0, ⟨(some 7), .mv (.tmp 4), none⟩),
  (1, ⟨(some 8), .mv (.tmp 0), none⟩),
  (2, ⟨(some 9), .lenS (.tmp 8), none⟩),
  (3, ⟨(some 10), .bin .lss (.tmp 7) (.tmp 9), none⟩)]
abbrev f52r3 : Pc := .reg f52o3 [0, 3, 4, 10] []
abbrev f52o5 : List (Nat × Pop) := [
  (0, ⟨(some 13), .mv (.tmp 3), none⟩),
  (1, ⟨(some 14), .mv (.tmp 0), none⟩),
  (2, ⟨(some 15), .mv (.tmp 4), none⟩),
  (3, ⟨(some 16), .ixs (.tmp 14) (.tmp 15), none⟩),
  (4, ⟨(some 17), .cvi .i64 (.tmp 16), none⟩),
  (5, ⟨(some 18), .call 62 [(.tmp 13), (.tmp 17)], none⟩),
  (6, ⟨(some 3), .mv (.tmp 18), none⟩)]
abbrev f52r5 : Pc := .reg f52o5 [0, 3, 4] []
abbrev f52o6 : List (Nat × Pop) := [
  (0, ⟨(some 5), .mv (.c (.t (.i .i64 0))), none⟩)]
abbrev f52r6 : Pc := .reg f52o6 [0, 3, 4, 5] []
abbrev f52o7 : List (Nat × Pop) := [
  (0, ⟨(some 19), .mv (.tmp 5), none⟩),
  (1, ⟨(some 20), .bin .lss (.tmp 19) (.c (.t (.i .i64 8))), none⟩)]
abbrev f52r7 : Pc := .reg f52o7 [0, 3, 4, 5, 20] []
abbrev f52o9 : List (Nat × Pop) := [
  (0, ⟨(some 23), .mv (.tmp 3), none⟩),
  (1, ⟨(some 24), .bin .rem (.tmp 23) (.c (.t (.i .i64 2))), none⟩),
  (2, ⟨(some 25), .bin .eql (.tmp 24) (.c (.t (.i .i64 1))), none⟩),
  (3, ⟨(some 6), .mv (.tmp 25), none⟩)]
abbrev f52r9 : Pc := .reg f52o9 [0, 3, 4, 5, 6] []
abbrev f52o10 : List (Nat × Pop) := [
  (0, ⟨(some 26), .mv (.tmp 3), none⟩),
  (1, ⟨(some 27), .bin .quo (.tmp 26) (.c (.t (.i .i64 2))), none⟩),
  (2, ⟨(some 3), .mv (.tmp 27), none⟩)]
abbrev f52r10 : Pc := .reg f52o10 [0, 3, 4, 5, 6] []
abbrev f52o11 : List (Nat × Pop) := [
  (0, ⟨(some 28), .mv (.tmp 6), none⟩)]
abbrev f52r11 : Pc := .reg f52o11 [0, 3, 4, 5, 28] []
abbrev f52o12 : List (Nat × Pop) := [
  (0, ⟨(some 29), .mv (.tmp 3), none⟩),
  (1, ⟨(some 30), .call 62 [(.tmp 29), (.c (.t (.i .i64 3988292384)))], none⟩),
  (2, ⟨(some 3), .mv (.tmp 30), none⟩)]
abbrev f52r12 : Pc := .reg f52o12 [0, 3, 4, 5] []
abbrev f52o8 : List (Nat × Pop) := [
  (0, ⟨(some 21), .mv (.tmp 5), none⟩),
  (1, ⟨(some 22), .bin .add (.tmp 21) (.c (.t (.i .i64 1))), none⟩),
  (2, ⟨(some 5), .mv (.tmp 22), none⟩)]
abbrev f52r8 : Pc := .reg f52o8 [0, 3, 4, 5] []
def f52l0 : Pc := (.seq (.seq f52r7 (.cond (.tmp 20) .skip (.exit 2))) (.seq (.block 3 (.seq f52r9 (.seq f52r10 (.seq f52r11 (.cond (.tmp 28) f52r12 .skip))))) f52r8))
theorem f52l0e (C : Cfg) (s : St) : evL C f52l0 s = evL C (.seq (.seq f52r7 (.cond (.tmp 20) .skip (.exit 2))) (.seq (.block 3 (.seq f52r9 (.seq f52r10 (.seq f52r11 (.cond (.tmp 28) f52r12 .skip))))) f52r8)) s := rfl
abbrev f52o4 : List (Nat × Pop) := [
  (0, ⟨(some 11), .mv (.tmp 4), none⟩),
  (1, ⟨(some 12), .bin .add (.tmp 11) (.c (.t (.i .i64 1))), none⟩),
  (2, ⟨(some 4), .mv (.tmp 12), none⟩)]
abbrev f52r4 : Pc := .reg f52o4 [0, 3, 4] []
def f52l1 : Pc := (.seq (.seq f52r3 (.cond (.tmp 10) .skip (.exit 0))) (.seq (.block 1 (.seq f52r5 (.seq f52r6 (.block 2 (.loop f52l0))))) f52r4))
theorem f52l1e (C : Cfg) (s : St) : evL C f52l1 s = evL C (.seq (.seq f52r3 (.cond (.tmp 10) .skip (.exit 0))) (.seq (.block 1 (.seq f52r5 (.seq f52r6 (.block 2 (.loop f52l0))))) f52r4)) s := rfl
abbrev f52o13 : List (Nat × Pop) := [
  (0, ⟨(some 31), .mv (.tmp 3), none⟩),
  (1, ⟨(some 32), .call 62 [(.tmp 31), (.c (.t (.i .i64 4294967295)))], none⟩),
  (2, ⟨(some 2), .mv (.tmp 32), none⟩)]
abbrev f52r13 : Pc := .reg f52o13 [2] []
abbrev f52b : Pc := (.seq f52r0 (.seq f52r1 (.seq (.seq f52r2 (.block 0 (.loop f52l1))) (.seq f52r13 .ret))))
abbrev f52 : Pfn := ⟨1, 33, [.tmp 2], f52b⟩
def f52K : Array (List Nat) := #[[0], [0, 3], [0, 3, 4], [0, 3, 4, 10], [0, 3, 4], [0, 3, 4], [0, 3, 4, 5], [0, 3, 4, 5, 20], [0, 3, 4, 5], [0, 3, 4, 5, 6], [0, 3, 4, 5, 6], [0, 3, 4, 5, 28], [0, 3, 4, 5], [2]]
def f52H : Array (List Nat) := #[[], [], [], [], [], [], [], [], [], [], [], [], [], []]
def f52A : Ann := ⟨fun r => f52K.getD r [], fun r => f52H.getD r [], fun r i => ([] : List (Nat × Nat)).contains (r, i)⟩
theorem f52C : compF Go.Proofs.Try.prog f52A 52 = some f52 := by kernel_rfl

/-- slices.Clone[[]bool,bool] -/
abbrev f53o0 : List (Nat × Pop) := [
  (0, ⟨(some 2), .nilv 4 1, none⟩)]
abbrev f53r0 : Pc := .reg f53o0 [0] [2, 5, 7]
abbrev f53o1 : List (Nat × Pop) := [
  (0, ⟨(some 3), .mv (.tmp 0), none⟩),
  (1, ⟨(some 4), .isnilS false (.tmp 3), none⟩)]
abbrev f53r1 : Pc := .reg f53o1 [0, 4] []
abbrev f53o2 : List (Nat × Pop) := [
  (0, ⟨(some 2), .nilv 4 1, none⟩)]
abbrev f53r2 : Pc := .reg f53o2 [2] []
abbrev f53o3 : List (Nat × Pop) := [
  (0, ⟨(some 5), .bslO 4 1 [], none⟩),
  (1, ⟨(some 6), .mv (.tmp 0), none⟩),
  (2, ⟨(some 7), .app 4 1 1 (.tmp 5) (.tmp 6), none⟩),
  (3, ⟨(some 2), .mv (.tmp 7), none⟩)]
abbrev f53r3 : Pc := .reg f53o3 [2] []
abbrev f53b : Pc := (.seq f53r0 (.seq (.seq f53r1 (.cond (.tmp 4) (.seq f53r2 .ret) .skip)) (.seq f53r3 .ret)))
abbrev f53 : Pfn := ⟨1, 8, [.tmp 2], f53b⟩
def f53K : Array (List Nat) := #[[0], [0, 4], [2], [2]]
def f53H : Array (List Nat) := #[[2, 5, 7], [], [], []]
def f53A : Ann := ⟨fun r => f53K.getD r [], fun r => f53H.getD r [], fun r i => ([(3, 0)] : List (Nat × Nat)).contains (r, i)⟩
theorem f53C : compF Go.Proofs.Try.prog f53A 53 = some f53 := by kernel_rfl

/-- slices.Clone[[]string,string] -/
abbrev f54o0 : List (Nat × Pop) := [
  (0, ⟨(some 2), .nilv 9 1, none⟩)]
abbrev f54r0 : Pc := .reg f54o0 [0] [2, 5, 7]
abbrev f54o1 : List (Nat × Pop) := [
  (0, ⟨(some 3), .mv (.tmp 0), none⟩),
  (1, ⟨(some 4), .isnilS false (.tmp 3), none⟩)]
abbrev f54r1 : Pc := .reg f54o1 [0, 4] []
abbrev f54o2 : List (Nat × Pop) := [
  (0, ⟨(some 2), .nilv 9 1, none⟩)]
abbrev f54r2 : Pc := .reg f54o2 [2] []
abbrev f54o3 : List (Nat × Pop) := [
  (0, ⟨(some 5), .bslO 9 1 [], none⟩),
  (1, ⟨(some 6), .mv (.tmp 0), none⟩),
  (2, ⟨(some 7), .app 9 1 16 (.tmp 5) (.tmp 6), none⟩),
  (3, ⟨(some 2), .mv (.tmp 7), none⟩)]
abbrev f54r3 : Pc := .reg f54o3 [2] []
abbrev f54b : Pc := (.seq f54r0 (.seq (.seq f54r1 (.cond (.tmp 4) (.seq f54r2 .ret) .skip)) (.seq f54r3 .ret)))
abbrev f54 : Pfn := ⟨1, 8, [.tmp 2], f54b⟩
def f54K : Array (List Nat) := #[[0], [0, 4], [2], [2]]
def f54H : Array (List Nat) := #[[2, 5, 7], [], [], []]
def f54A : Ann := ⟨fun r => f54K.getD r [], fun r => f54H.getD r [], fun r i => ([(3, 0)] : List (Nat × Nat)).contains (r, i)⟩
theorem f54C : compF Go.Proofs.Try.prog f54A 54 = some f54 := by kernel_rfl

/-- slices.Contains[[]bool,bool] -/
abbrev f55o0 : List (Nat × Pop) := [
  (0, ⟨(some 4), .mv (.c (.t (.b false))), none⟩)]
abbrev f55r0 : Pc := .reg f55o0 [0, 1] []
abbrev f55o1 : List (Nat × Pop) := [
  (0, ⟨(some 5), .mv (.tmp 0), none⟩),
  (1, ⟨(some 6), .mv (.tmp 1), none⟩),
  (2, ⟨(some 7), .call 63 [(.tmp 5), (.tmp 6)], none⟩),
  (3, ⟨(some 8), .bin .geq (.tmp 7) (.c (.t (.i .i64 0))), none⟩),
  (4, ⟨(some 4), .mv (.tmp 8), none⟩)]
abbrev f55r1 : Pc := .reg f55o1 [4] []
abbrev f55b : Pc := (.seq f55r0 (.seq f55r1 .ret))
abbrev f55 : Pfn := ⟨2, 9, [.tmp 4], f55b⟩
def f55K : Array (List Nat) := #[[0, 1], [4]]
def f55H : Array (List Nat) := #[[], []]
def f55A : Ann := ⟨fun r => f55K.getD r [], fun r => f55H.getD r [], fun r i => ([] : List (Nat × Nat)).contains (r, i)⟩
theorem f55C : compF Go.Proofs.Try.prog f55A 55 = some f55 := by kernel_rfl

/-- switchboard/chunk.Join -/
abbrev f56o0 : List (Nat × Pop) := [
  (0, ⟨(some 2), .mv (.c (.t (.s []))), none⟩)]
abbrev f56r0 : Pc := .reg f56o0 [0] []
abbrev f56o1 : List (Nat × Pop) := [
  (0, ⟨(some 3), .mv (.tmp 0), none⟩),
  (1, ⟨(some 4), .call 64 [(.tmp 3), (.c (.t (.s [])))], none⟩),
  (2, ⟨(some 2), .mv (.tmp 4), none⟩)]
abbrev f56r1 : Pc := .reg f56o1 [2] []
abbrev f56b : Pc := (.seq f56r0 (.seq f56r1 .ret))
abbrev f56 : Pfn := ⟨1, 5, [.tmp 2], f56b⟩
def f56K : Array (List Nat) := #[[0], [2]]
def f56H : Array (List Nat) := #[[], []]
def f56A : Ann := ⟨fun r => f56K.getD r [], fun r => f56H.getD r [], fun r i => ([] : List (Nat × Nat)).contains (r, i)⟩
theorem f56C : compF Go.Proofs.Try.prog f56A 56 = some f56 := by kernel_rfl

/-- switchboard/switchboardref06.over -/
abbrev f62o0 : List (Nat × Pop) := [
  (0, ⟨(some 4), .mv (.c (.t (.i .i64 0))), none⟩)]
abbrev f62r0 : Pc := .reg f62o0 [0, 1] []
abbrev f62o1 : List (Nat × Pop) := [
  (0, ⟨(some 5), .mv (.c (.t (.i .i64 0))), none⟩),
  (1, ⟨(some 6), .mv (.c (.t (.i .i64 1))), none⟩)]
abbrev f62r1 : Pc := .reg f62o1 [0, 1, 5, 6] []
abbrev f62o2 : List (Nat × Pop) := [
  (0, ⟨(some 7), .mv (.tmp 0), none⟩),
  (1, ⟨(some 8), .bin .gtr (.tmp 7) (.c (.t (.i .i64 0))), none⟩),
  (2, ⟨(some 9), .mv (.tmp 8), none⟩),
  (3, ⟨(some 10), .mv (.tmp 1), (some (9, false))⟩),
  (4, ⟨(some 11), .bin .gtr (.tmp 10) (.c (.t (.i .i64 0))), (some (9, false))⟩),
  (5, ⟨(some 12), .pick (.tmp 9) (.c (.t (.b true))) (.tmp 11), none⟩)]
abbrev f62r2 : Pc := .reg f62o2 [0, 1, 5, 6, 12] []
abbrev f62o3 : List (Nat × Pop) := [
  (0, ⟨(some 13), .mv (.tmp 0), none⟩),
  (1, ⟨(some 14), .bin .rem (.tmp 13) (.c (.t (.i .i64 2))), none⟩),
  (2, ⟨(some 15), .mv (.tmp 1), none⟩),
  (3, ⟨(some 16), .bin .rem (.tmp 15) (.c (.t (.i .i64 2))), none⟩),
  (4, ⟨(some 17), .bin .neq (.tmp 14) (.tmp 16), none⟩)]
abbrev f62r3 : Pc := .reg f62o3 [0, 1, 5, 6, 17] []
abbrev f62o4 : List (Nat × Pop) := [
  (0, ⟨(some 18), .mv (.tmp 5), none⟩),
  (1, ⟨(some 19), .mv (.tmp 6), none⟩),
  (2, ⟨(some 20), .bin .add (.tmp 18) (.tmp 19), none⟩),
  (3, ⟨(some 5), .mv (.tmp 20), none⟩)]
abbrev f62r4 : Pc := .reg f62o4 [0, 1, 5, 6] []
abbrev f62o5 : List (Nat × Pop) := [
  (0, ⟨(some 21), .mv (.tmp 0), none⟩),
  (1, ⟨(some 22), .bin .quo (.tmp 21) (.c (.t (.i .i64 2))), none⟩),
  (2, ⟨(some 23), .mv (.tmp 1), none⟩),
  (3, ⟨(some 24), .bin .quo (.tmp 23) (.c (.t (.i .i64 2))), none⟩),
  (4, ⟨(some 25), .mv (.tmp 6), none⟩),
  (5, ⟨(some 26), .bin .mul (.c (.t (.i .i64 2))) (.tmp 25), none⟩),
  (6, ⟨(some 0), .mv (.tmp 22), none⟩),
  (7, ⟨(some 1), .mv (.tmp 24), none⟩),
  (8, ⟨(some 6), .mv (.tmp 26), none⟩)]
abbrev f62r5 : Pc := .reg f62o5 [0, 1, 5, 6] []
def f62l0 : Pc := (.seq (.seq f62r2 (.cond (.tmp 12) .skip (.exit 0))) (.block 1 (.seq (.seq f62r3 (.cond (.tmp 17) f62r4 .skip)) f62r5)))
theorem f62l0e (C : Cfg) (s : St) : evL C f62l0 s = evL C (.seq (.seq f62r2 (.cond (.tmp 12) .skip (.exit 0))) (.block 1 (.seq (.seq f62r3 (.cond (.tmp 17) f62r4 .skip)) f62r5))) s := rfl
abbrev f62o6 : List (Nat × Pop) := [
  (0, ⟨(some 27), .mv (.tmp 5), none⟩),
  (1, ⟨(some 4), .mv (.tmp 27), none⟩)]
abbrev f62r6 : Pc := .reg f62o6 [4] []
abbrev f62b : Pc := (.seq f62r0 (.seq f62r1 (.seq (.block 0 (.loop f62l0)) (.seq f62r6 .ret))))
abbrev f62 : Pfn := ⟨2, 28, [.tmp 4], f62b⟩
def f62K : Array (List Nat) := #[[0, 1], [0, 1, 5, 6], [0, 1, 5, 6, 12], [0, 1, 5, 6, 17], [0, 1, 5, 6], [0, 1, 5, 6], [4]]
def f62H : Array (List Nat) := #[[], [], [], [], [], [], []]
def f62A : Ann := ⟨fun r => f62K.getD r [], fun r => f62H.getD r [], fun r i => ([] : List (Nat × Nat)).contains (r, i)⟩
theorem f62C : compF Go.Proofs.Try.prog f62A 62 = some f62 := by kernel_rfl

/-- slices.Index[[]bool,bool] -/
abbrev f63o0 : List (Nat × Pop) := [
  (0, ⟨(some 4), .mv (.c (.t (.i .i64 0))), none⟩)]
abbrev f63r0 : Pc := .reg f63o0 [0, 1] []
abbrev f63o1 : List (Nat × Pop) := [
  (0, ⟨(some 6), .mv (.tmp 0), none⟩),
  (1, ⟨(some 7), .lenL (.tmp 6), none⟩),
  (2, ⟨(some 8), .mv (.c (.t (.i .i64 0))), none⟩)]
abbrev f63r1 : Pc := .reg f63o1 [0, 1, 7, 8] []
abbrev f63o2 : List (Nat × Pop) := [
  (0, ⟨(some 9), .bin .lss (.tmp 8) (.tmp 7), none⟩)]
abbrev f63r2 : Pc := .reg f63o2 [0, 1, 7, 8, 9] []
abbrev f63o3 : List (Nat × Pop) := [
  (0, ⟨(some 10), .mv (.tmp 8), none⟩),
  (1, ⟨(some 5), .mv (.tmp 10), none⟩)]
abbrev f63r3 : Pc := .reg f63o3 [0, 1, 5, 7, 8] []
abbrev f63o4 : List (Nat × Pop) := [
  (0, ⟨(some 11), .mv (.tmp 1), none⟩),
  (1, ⟨(some 12), .mv (.tmp 0), none⟩),
  (2, ⟨(some 13), .mv (.tmp 5), none⟩),
  (3, ⟨(some 14), .ixS 1 (.tmp 12) (.tmp 13), none⟩),
  (4, ⟨(some 15), .load false 1 (.tmp 14), none⟩),
  (5, ⟨(some 16), .beq false (.tmp 11) (.tmp 15), none⟩)]
abbrev f63r4 : Pc := .reg f63o4 [0, 1, 5, 7, 8, 16] []
abbrev f63o5 : List (Nat × Pop) := [
  (0, ⟨(some 17), .mv (.tmp 5), none⟩),
  (1, ⟨(some 4), .mv (.tmp 17), none⟩)]
abbrev f63r5 : Pc := .reg f63o5 [4] []
abbrev f63o6 : List (Nat × Pop) := [
  (0, ⟨(some 18), .bin .add (.tmp 8) (.c (.t (.i .i64 1))), none⟩),
  (1, ⟨(some 8), .mv (.tmp 18), none⟩)]
abbrev f63r6 : Pc := .reg f63o6 [0, 1, 7, 8] []
def f63l0 : Pc := (.seq f63r2 (.seq (.cond (.tmp 9) .skip (.exit 0)) (.seq (.block 1 (.seq f63r3 (.seq f63r4 (.cond (.tmp 16) (.seq f63r5 .ret) .skip)))) f63r6)))
theorem f63l0e (C : Cfg) (s : St) : evL C f63l0 s = evL C (.seq f63r2 (.seq (.cond (.tmp 9) .skip (.exit 0)) (.seq (.block 1 (.seq f63r3 (.seq f63r4 (.cond (.tmp 16) (.seq f63r5 .ret) .skip)))) f63r6))) s := rfl
abbrev f63o7 : List (Nat × Pop) := [
  (0, ⟨(some 4), .mv (.c (.t (.i .i64 (-1)))), none⟩)]
abbrev f63r7 : Pc := .reg f63o7 [4] []
abbrev f63b : Pc := (.seq f63r0 (.seq (.seq f63r1 (.block 0 (.loop f63l0))) (.seq f63r7 .ret)))
abbrev f63 : Pfn := ⟨2, 19, [.tmp 4], f63b⟩
def f63K : Array (List Nat) := #[[0, 1], [0, 1, 7, 8], [0, 1, 7, 8, 9], [0, 1, 5, 7, 8], [0, 1, 5, 7, 8, 16], [4], [0, 1, 7, 8], [4]]
def f63H : Array (List Nat) := #[[], [], [], [], [], [], [], []]
def f63A : Ann := ⟨fun r => f63K.getD r [], fun r => f63H.getD r [], fun r i => ([] : List (Nat × Nat)).contains (r, i)⟩
theorem f63C : compF Go.Proofs.Try.prog f63A 63 = some f63 := by kernel_rfl


end Go.Proofs.Ythkehbdljckbdaa.Pv
