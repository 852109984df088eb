/- The functions' forms, as the pure evaluator takes them; each is what the program's code gives (kernel_rfl). -/
import Derived.Test.YtfclnkhhabiheaaPevA
import Derived.Test.YtfclnkhhabiheaaPevC
import Derived.Test.YtfclnkhhabiheaaProg
import Derived.KernelRfl
namespace Go.Proofs.Ytfclnkhhabiheaa.Pv
open Go Go.Pev
/-- switchboard/switchboardlaw23.PortPacks -/
abbrev f3o0 : List (Nat × Pop) := [
  (0, ⟨(some 8), .mv (.c (.t (.b false))), none⟩)]
abbrev f3r0 : Pc := .reg f3o0 [0, 1, 2, 3] []
abbrev f3o1 : List (Nat × Pop) := [
  (0, ⟨(some 21), .mv (.tmp 2), none⟩),
  (1, ⟨(some 22), .lenS (.tmp 21), none⟩),
  (2, ⟨(some 23), .bin .gtr (.tmp 22) (.c (.t (.i .i64 200))), none⟩),
  (3, ⟨(some 24), .mv (.tmp 23), none⟩),
  (4, ⟨(some 25), .mv (.tmp 3), (some (24, false))⟩),
  (5, ⟨(some 26), .lenS (.tmp 25), (some (24, false))⟩),
  (6, ⟨(some 27), .bin .gtr (.tmp 26) (.c (.t (.i .i64 200))), (some (24, false))⟩),
  (7, ⟨(some 28), .pick (.tmp 24) (.c (.t (.b true))) (.tmp 27), none⟩)]
abbrev f3r1 : Pc := .reg f3o1 [0, 1, 2, 3, 28] []
abbrev f3o2 : List (Nat × Pop) := [
  (0, ⟨(some 29), .call 9 [], none⟩),
  (1, ⟨(some 8), .mv (.tmp 29), none⟩)]
abbrev f3r2 : Pc := .reg f3o2 [8] []
abbrev f3o3 : List (Nat × Pop) := [
  (0, ⟨(some 31), .mv (.tmp 0), none⟩),
  (1, ⟨(some 32), .mv (.tmp 1), none⟩),
  (2, ⟨(some 33), .mv (.tmp 2), none⟩),
  (3, ⟨(some 34), .call 10 [(.tmp 31), (.tmp 32), (.tmp 33)], none⟩),
  (4, ⟨(some 30), .mv (.tmp 34), none⟩),
  (5, ⟨(some 35), .ext 0 (.tmp 30), none⟩),
  (6, ⟨(some 36), .ext 1 (.tmp 30), none⟩),
  (7, ⟨(some 9), .mv (.tmp 35), none⟩),
  (8, ⟨(some 10), .mv (.tmp 36), none⟩)]
abbrev f3r3 : Pc := .reg f3o3 [0, 1, 2, 3, 9, 10] []
abbrev f3o4 : List (Nat × Pop) := [
  (0, ⟨(some 38), .mv (.tmp 0), none⟩),
  (1, ⟨(some 39), .mv (.tmp 1), none⟩),
  (2, ⟨(some 40), .mv (.tmp 2), none⟩),
  (3, ⟨(some 41), .call 11 [(.tmp 38), (.tmp 39), (.tmp 40)], none⟩),
  (4, ⟨(some 37), .mv (.tmp 41), none⟩),
  (5, ⟨(some 42), .ext 0 (.tmp 37), none⟩),
  (6, ⟨(some 43), .ext 1 (.tmp 37), none⟩),
  (7, ⟨(some 11), .mv (.tmp 42), none⟩),
  (8, ⟨(some 12), .mv (.tmp 43), none⟩)]
abbrev f3r4 : Pc := .reg f3o4 [3, 9, 10, 11, 12] []
abbrev f3o5 : List (Nat × Pop) := [
  (0, ⟨(some 44), .mv (.tmp 9), none⟩),
  (1, ⟨(some 45), .mv (.tmp 11), none⟩),
  (2, ⟨(some 46), .bin .neq (.tmp 44) (.tmp 45), none⟩),
  (3, ⟨(some 47), .mv (.tmp 46), none⟩),
  (4, ⟨(some 48), .mv (.tmp 10), (some (47, false))⟩),
  (5, ⟨(some 49), .bin .eql (.tmp 48) (.c (.t (.i .i64 0))), (some (47, false))⟩),
  (6, ⟨(some 50), .mv (.tmp 12), (some (47, false))⟩),
  (7, ⟨(some 51), .beq true (.tmp 49) (.tmp 50), (some (47, false))⟩),
  (8, ⟨(some 52), .pick (.tmp 47) (.c (.t (.b true))) (.tmp 51), none⟩),
  (9, ⟨(some 53), .mv (.tmp 52), none⟩),
  (10, ⟨(some 54), .mv (.tmp 10), (some (53, false))⟩),
  (11, ⟨(some 55), .bin .neq (.tmp 54) (.c (.t (.i .i64 0))), (some (53, false))⟩),
  (12, ⟨(some 56), .mv (.tmp 55), (some (53, false))⟩),
  (13, ⟨(some 57), .mv (.tmp 10), (some (56, true))⟩),
  (14, ⟨(some 58), .bin .neq (.tmp 57) (.c (.t (.i .i64 1))), (some (56, true))⟩),
  (15, ⟨(some 59), .pick (.tmp 56) (.tmp 58) (.c (.t (.b false))), (some (53, false))⟩),
  (16, ⟨(some 60), .pick (.tmp 53) (.c (.t (.b true))) (.tmp 59), none⟩)]
abbrev f3r5 : Pc := .reg f3o5 [3, 60] []
abbrev f3o6 : List (Nat × Pop) := [
  (0, ⟨(some 8), .mv (.c (.t (.b false))), none⟩)]
abbrev f3r6 : Pc := .reg f3o6 [8] []
abbrev f3o7 : List (Nat × Pop) := [
  (0, ⟨(some 62), .mv (.tmp 3), none⟩),
  (1, ⟨(some 63), .call 12 [(.tmp 62)], none⟩),
  (2, ⟨(some 61), .mv (.tmp 63), none⟩),
  (3, ⟨(some 64), .ext 0 (.tmp 61), none⟩),
  (4, ⟨(some 65), .ext 1 (.tmp 61), none⟩),
  (5, ⟨(some 66), .ext 2 (.tmp 61), none⟩),
  (6, ⟨(some 67), .ext 3 (.tmp 61), none⟩),
  (7, ⟨(some 13), .mv (.tmp 64), none⟩),
  (8, ⟨(some 14), .mv (.tmp 65), none⟩),
  (9, ⟨(some 15), .mv (.tmp 66), none⟩),
  (10, ⟨(some 16), .mv (.tmp 67), none⟩)]
abbrev f3r7 : Pc := .reg f3o7 [3, 13, 14, 15, 16] []
abbrev f3o8 : List (Nat × Pop) := [
  (0, ⟨(some 69), .mv (.tmp 3), none⟩),
  (1, ⟨(some 70), .call 13 [(.tmp 69)], none⟩),
  (2, ⟨(some 68), .mv (.tmp 70), none⟩),
  (3, ⟨(some 71), .ext 0 (.tmp 68), none⟩),
  (4, ⟨(some 72), .ext 1 (.tmp 68), none⟩),
  (5, ⟨(some 73), .ext 2 (.tmp 68), none⟩),
  (6, ⟨(some 74), .ext 3 (.tmp 68), none⟩),
  (7, ⟨(some 17), .mv (.tmp 71), none⟩),
  (8, ⟨(some 18), .mv (.tmp 72), none⟩),
  (9, ⟨(some 19), .mv (.tmp 73), none⟩),
  (10, ⟨(some 20), .mv (.tmp 74), none⟩)]
abbrev f3r8 : Pc := .reg f3o8 [13, 14, 15, 16, 17, 18, 19, 20] []
abbrev f3o9 : List (Nat × Pop) := [
  (0, ⟨(some 75), .mv (.tmp 13), none⟩),
  (1, ⟨(some 76), .mv (.tmp 17), none⟩),
  (2, ⟨(some 77), .bin .eql (.tmp 75) (.tmp 76), none⟩),
  (3, ⟨(some 78), .mv (.tmp 77), none⟩),
  (4, ⟨(some 79), .mv (.tmp 14), (some (78, true))⟩),
  (5, ⟨(some 80), .mv (.tmp 18), (some (78, true))⟩),
  (6, ⟨(some 81), .bin .eql (.tmp 79) (.tmp 80), (some (78, true))⟩),
  (7, ⟨(some 82), .pick (.tmp 78) (.tmp 81) (.c (.t (.b false))), none⟩),
  (8, ⟨(some 83), .mv (.tmp 82), none⟩),
  (9, ⟨(some 84), .mv (.tmp 15), (some (83, true))⟩),
  (10, ⟨(some 85), .mv (.tmp 19), (some (83, true))⟩),
  (11, ⟨(some 86), .bin .eql (.tmp 84) (.tmp 85), (some (83, true))⟩),
  (12, ⟨(some 87), .pick (.tmp 83) (.tmp 86) (.c (.t (.b false))), none⟩),
  (13, ⟨(some 88), .mv (.tmp 87), none⟩),
  (14, ⟨(some 89), .mv (.tmp 16), (some (88, true))⟩),
  (15, ⟨(some 90), .mv (.tmp 20), (some (88, true))⟩),
  (16, ⟨(some 91), .bin .eql (.tmp 89) (.tmp 90), (some (88, true))⟩),
  (17, ⟨(some 92), .pick (.tmp 88) (.tmp 91) (.c (.t (.b false))), none⟩),
  (18, ⟨(some 93), .mv (.tmp 92), none⟩),
  (19, ⟨(some 94), .call 9 [], (some (93, true))⟩),
  (20, ⟨(some 95), .pick (.tmp 93) (.tmp 94) (.c (.t (.b false))), none⟩),
  (21, ⟨(some 8), .mv (.tmp 95), none⟩)]
abbrev f3r9 : Pc := .reg f3o9 [8] []
abbrev f3b : Pc := (.seq f3r0 (.seq (.seq f3r1 (.cond (.tmp 28) (.seq f3r2 .ret) .skip)) (.seq f3r3 (.seq f3r4 (.seq (.seq f3r5 (.cond (.tmp 60) (.seq f3r6 .ret) .skip)) (.seq f3r7 (.seq f3r8 (.seq f3r9 .ret))))))))
abbrev f3 : Pfn := ⟨4, 96, [.tmp 8], f3b⟩
def f3K : Array (List Nat) := #[[0, 1, 2, 3], [0, 1, 2, 3, 28], [8], [0, 1, 2, 3, 9, 10], [3, 9, 10, 11, 12], [3, 60], [8], [3, 13, 14, 15, 16], [13, 14, 15, 16, 17, 18, 19, 20], [8]]
def f3H : Array (List Nat) := #[[], [], [], [], [], [], [], [], [], []]
def f3A : Ann := ⟨fun r => f3K.getD r [], fun r => f3H.getD r [], fun r i => ([] : List (Nat × Nat)).contains (r, i)⟩
theorem f3C : compF Go.Proofs.Try.prog f3A 3 = some f3 := by kernel_rfl

/-- switchboard/switchboardlaw23.PortReceives -/
abbrev f4o0 : List (Nat × Pop) := [
  (0, ⟨(some 2), .box 40 4 (.tmp 0), none⟩),
  (1, ⟨(some 4), .mv (.c (.t (.b false))), none⟩)]
abbrev f4r0 : Pc := .reg f4o0 [1, 2] []
abbrev f4o1 : List (Nat × Pop) := [
  (0, ⟨(some 23), .load true 4 (.tmp 2), none⟩),
  (1, ⟨(some 24), .call 14 [(.tmp 23)], none⟩),
  (2, ⟨(some 22), .mv (.tmp 24), none⟩),
  (3, ⟨(some 25), .ext 0 (.tmp 22), none⟩),
  (4, ⟨(some 26), .ext 1 (.tmp 22), none⟩),
  (5, ⟨(some 5), .alloc 46 [(.t (.i .i64 0)), .nl, (.t (.i .i64 0)), .nl], none⟩),
  (6, ⟨none, .store 4 (.tmp 5) (.tmp 25), none⟩),
  (7, ⟨(some 6), .mv (.tmp 26), none⟩)]
abbrev f4r1 : Pc := .reg f4o1 [1, 2, 5, 6] []
abbrev f4o2 : List (Nat × Pop) := [
  (0, ⟨(some 27), .mv (.tmp 6), none⟩),
  (1, ⟨(some 28), .un .not (.tmp 27), none⟩),
  (2, ⟨(some 29), .mv (.tmp 28), none⟩),
  (3, ⟨(some 30), .mv (.tmp 1), (some (29, false))⟩),
  (4, ⟨(some 31), .lenS (.tmp 30), (some (29, false))⟩),
  (5, ⟨(some 32), .bin .gtr (.tmp 31) (.c (.t (.i .i64 200))), (some (29, false))⟩),
  (6, ⟨(some 33), .pick (.tmp 29) (.c (.t (.b true))) (.tmp 32), none⟩)]
abbrev f4r2 : Pc := .reg f4o2 [1, 2, 5, 33] []
abbrev f4o3 : List (Nat × Pop) := [
  (0, ⟨(some 34), .call 9 [], none⟩),
  (1, ⟨(some 4), .mv (.tmp 34), none⟩)]
abbrev f4r3 : Pc := .reg f4o3 [4] [2, 5]
abbrev f4o4 : List (Nat × Pop) := [
  (0, ⟨(some 36), .load true 4 (.tmp 2), none⟩),
  (1, ⟨(some 37), .mv (.tmp 1), none⟩),
  (2, ⟨(some 38), .call 15 [(.tmp 36), (.tmp 37)], none⟩),
  (3, ⟨(some 35), .mv (.tmp 38), none⟩),
  (4, ⟨(some 39), .ext 0 (.tmp 35), none⟩),
  (5, ⟨(some 40), .ext 1 (.tmp 35), none⟩),
  (6, ⟨(some 41), .ext 2 (.tmp 35), none⟩),
  (7, ⟨(some 42), .ext 3 (.tmp 35), none⟩),
  (8, ⟨(some 43), .ext 4 (.tmp 35), none⟩),
  (9, ⟨(some 7), .alloc 40 [(.t (.i .i64 0)), .nl, (.t (.i .i64 0)), .nl], none⟩),
  (10, ⟨none, .store 4 (.tmp 7) (.tmp 39), none⟩),
  (11, ⟨(some 8), .mv (.tmp 40), none⟩),
  (12, ⟨(some 9), .mv (.tmp 41), none⟩),
  (13, ⟨(some 10), .mv (.tmp 42), none⟩),
  (14, ⟨(some 11), .mv (.tmp 43), none⟩)]
abbrev f4r4 : Pc := .reg f4o4 [1, 5, 7, 8, 9, 10, 11] [2]
abbrev f4o5 : List (Nat × Pop) := [
  (0, ⟨(some 45), .load true 4 (.tmp 7), none⟩),
  (1, ⟨(some 46), .call 14 [(.tmp 45)], none⟩),
  (2, ⟨(some 44), .mv (.tmp 46), none⟩),
  (3, ⟨(some 47), .ext 0 (.tmp 44), none⟩),
  (4, ⟨(some 48), .ext 1 (.tmp 44), none⟩),
  (5, ⟨(some 12), .alloc 46 [(.t (.i .i64 0)), .nl, (.t (.i .i64 0)), .nl], none⟩),
  (6, ⟨none, .store 4 (.tmp 12) (.tmp 47), none⟩),
  (7, ⟨(some 13), .mv (.tmp 48), none⟩)]
abbrev f4r5 : Pc := .reg f4o5 [1, 5, 8, 9, 10, 11, 12, 13] [7]
abbrev f4o6 : List (Nat × Pop) := [
  (0, ⟨(some 50), .mv (.tmp 1), none⟩),
  (1, ⟨(some 51), .call 13 [(.tmp 50)], none⟩),
  (2, ⟨(some 49), .mv (.tmp 51), none⟩),
  (3, ⟨(some 52), .ext 0 (.tmp 49), none⟩),
  (4, ⟨(some 53), .ext 1 (.tmp 49), none⟩),
  (5, ⟨(some 54), .ext 2 (.tmp 49), none⟩),
  (6, ⟨(some 55), .ext 3 (.tmp 49), none⟩),
  (7, ⟨(some 14), .mv (.tmp 52), none⟩),
  (8, ⟨(some 15), .mv (.tmp 53), none⟩),
  (9, ⟨(some 16), .mv (.tmp 54), none⟩),
  (10, ⟨(some 17), .mv (.tmp 55), none⟩)]
abbrev f4r6 : Pc := .reg f4o6 [5, 8, 9, 10, 11, 12, 13, 14, 15, 16, 17] []
abbrev f4o7 : List (Nat × Pop) := [
  (0, ⟨(some 56), .mv (.tmp 13), none⟩),
  (1, ⟨(some 57), .un .not (.tmp 56), none⟩),
  (2, ⟨(some 58), .mv (.tmp 57), none⟩),
  (3, ⟨(some 59), .mv (.tmp 11), (some (58, false))⟩),
  (4, ⟨(some 60), .mv (.tmp 17), (some (58, false))⟩),
  (5, ⟨(some 61), .bin .neq (.tmp 59) (.tmp 60), (some (58, false))⟩),
  (6, ⟨(some 62), .pick (.tmp 58) (.c (.t (.b true))) (.tmp 61), none⟩)]
abbrev f4r7 : Pc := .reg f4o7 [5, 8, 9, 10, 12, 14, 15, 16, 17, 62] []
abbrev f4o8 : List (Nat × Pop) := [
  (0, ⟨(some 4), .mv (.c (.t (.b false))), none⟩)]
abbrev f4r8 : Pc := .reg f4o8 [4] [5, 12]
abbrev f4o9 : List (Nat × Pop) := [
  (0, ⟨(some 63), .mv (.tmp 17), none⟩),
  (1, ⟨(some 64), .bin .neq (.tmp 63) (.c (.t (.i .i64 0))), none⟩)]
abbrev f4r9 : Pc := .reg f4o9 [5, 8, 9, 10, 12, 14, 15, 16, 64] []
abbrev f4o10 : List (Nat × Pop) := [
  (0, ⟨(some 65), .load true 4 (.tmp 12), none⟩),
  (1, ⟨(some 66), .load true 4 (.tmp 5), none⟩),
  (2, ⟨(some 67), .call 16 [(.tmp 65), (.tmp 66)], none⟩),
  (3, ⟨(some 68), .mv (.tmp 67), none⟩),
  (4, ⟨(some 69), .mv (.tmp 8), (some (68, true))⟩),
  (5, ⟨(some 70), .bin .eql (.tmp 69) (.c (.t (.s []))), (some (68, true))⟩),
  (6, ⟨(some 71), .pick (.tmp 68) (.tmp 70) (.c (.t (.b false))), none⟩),
  (7, ⟨(some 72), .mv (.tmp 71), none⟩),
  (8, ⟨(some 73), .mv (.tmp 9), (some (72, true))⟩),
  (9, ⟨(some 74), .un .not (.tmp 73), (some (72, true))⟩),
  (10, ⟨(some 75), .pick (.tmp 72) (.tmp 74) (.c (.t (.b false))), none⟩),
  (11, ⟨(some 76), .mv (.tmp 75), none⟩),
  (12, ⟨(some 77), .mv (.tmp 10), (some (76, true))⟩),
  (13, ⟨(some 78), .bin .eql (.tmp 77) (.c (.t (.s []))), (some (76, true))⟩),
  (14, ⟨(some 79), .pick (.tmp 76) (.tmp 78) (.c (.t (.b false))), none⟩),
  (15, ⟨(some 80), .mv (.tmp 79), none⟩),
  (16, ⟨(some 81), .call 9 [], (some (80, true))⟩),
  (17, ⟨(some 82), .pick (.tmp 80) (.tmp 81) (.c (.t (.b false))), none⟩),
  (18, ⟨(some 4), .mv (.tmp 82), none⟩)]
abbrev f4r10 : Pc := .reg f4o10 [4] [5, 12]
abbrev f4o11 : List (Nat × Pop) := [
  (0, ⟨(some 83), .mv (.tmp 14), none⟩),
  (1, ⟨(some 84), .bin .eql (.tmp 83) (.c (.t (.i .u8 65))), none⟩)]
abbrev f4r11 : Pc := .reg f4o11 [5, 8, 9, 10, 12, 15, 16, 84] []
abbrev f4o12 : List (Nat × Pop) := [
  (0, ⟨(some 85), .fad 0 (.tmp 5), none⟩),
  (1, ⟨(some 86), .load true 2 (.tmp 85), none⟩),
  (2, ⟨(some 87), .mv (.tmp 15), none⟩),
  (3, ⟨(some 88), .call 17 [(.tmp 86), (.tmp 87)], none⟩),
  (4, ⟨(some 89), .fad 0 (.tmp 5), none⟩),
  (5, ⟨none, .store 2 (.tmp 89) (.tmp 88), none⟩)]
abbrev f4r12 : Pc := .reg f4o12 [5, 8, 9, 10, 12] []
abbrev f4o13 : List (Nat × Pop) := [
  (0, ⟨(some 90), .load true 4 (.tmp 12), none⟩),
  (1, ⟨(some 91), .load true 4 (.tmp 5), none⟩),
  (2, ⟨(some 92), .call 16 [(.tmp 90), (.tmp 91)], none⟩),
  (3, ⟨(some 93), .mv (.tmp 92), none⟩),
  (4, ⟨(some 94), .mv (.tmp 8), (some (93, true))⟩),
  (5, ⟨(some 95), .bin .eql (.tmp 94) (.c (.t (.s []))), (some (93, true))⟩),
  (6, ⟨(some 96), .pick (.tmp 93) (.tmp 95) (.c (.t (.b false))), none⟩),
  (7, ⟨(some 97), .mv (.tmp 96), none⟩),
  (8, ⟨(some 98), .mv (.tmp 9), (some (97, true))⟩),
  (9, ⟨(some 99), .un .not (.tmp 98), (some (97, true))⟩),
  (10, ⟨(some 100), .pick (.tmp 97) (.tmp 99) (.c (.t (.b false))), none⟩),
  (11, ⟨(some 101), .mv (.tmp 100), none⟩),
  (12, ⟨(some 102), .mv (.tmp 10), (some (101, true))⟩),
  (13, ⟨(some 103), .bin .eql (.tmp 102) (.c (.t (.s []))), (some (101, true))⟩),
  (14, ⟨(some 104), .pick (.tmp 101) (.tmp 103) (.c (.t (.b false))), none⟩),
  (15, ⟨(some 105), .mv (.tmp 104), none⟩),
  (16, ⟨(some 106), .call 9 [], (some (105, true))⟩),
  (17, ⟨(some 107), .pick (.tmp 105) (.tmp 106) (.c (.t (.b false))), none⟩),
  (18, ⟨(some 4), .mv (.tmp 107), none⟩)]
abbrev f4r13 : Pc := .reg f4o13 [4] [5, 12]
abbrev f4o14 : List (Nat × Pop) := [
  (0, ⟨(some 109), .fad 2 (.tmp 5), none⟩),
  (1, ⟨(some 110), .load true 2 (.tmp 109), none⟩),
  (2, ⟨(some 111), .mv (.tmp 15), none⟩),
  (3, ⟨(some 112), .call 18 [(.tmp 110), (.tmp 111)], none⟩),
  (4, ⟨(some 108), .mv (.tmp 112), none⟩),
  (5, ⟨(some 113), .ext 0 (.tmp 108), none⟩),
  (6, ⟨(some 114), .ext 1 (.tmp 108), none⟩),
  (7, ⟨(some 18), .alloc 44 [(.t (.i .i64 0)), .nl], none⟩),
  (8, ⟨none, .store 2 (.tmp 18) (.tmp 113), none⟩),
  (9, ⟨(some 19), .mv (.tmp 114), none⟩)]
abbrev f4r14 : Pc := .reg f4o14 [5, 8, 9, 10, 12, 15, 16, 18, 19] []
abbrev f4o15 : List (Nat × Pop) := [
  (0, ⟨(some 116), .mv (.tmp 15), none⟩),
  (1, ⟨(some 117), .call 11 [(.c (.t (.i .u8 65))), (.tmp 116), (.c (.t (.s [])))], none⟩),
  (2, ⟨(some 115), .mv (.tmp 117), none⟩),
  (3, ⟨(some 118), .ext 0 (.tmp 115), none⟩),
  (4, ⟨(some 119), .ext 1 (.tmp 115), none⟩),
  (5, ⟨(some 20), .mv (.tmp 118), none⟩),
  (6, ⟨(some 21), .mv (.tmp 119), none⟩)]
abbrev f4r15 : Pc := .reg f4o15 [5, 8, 9, 10, 12, 16, 18, 19, 20] []
abbrev f4o16 : List (Nat × Pop) := [
  (0, ⟨(some 120), .mv (.tmp 19), none⟩),
  (1, ⟨(some 121), .un .not (.tmp 120), none⟩)]
abbrev f4r16 : Pc := .reg f4o16 [5, 8, 9, 10, 12, 16, 18, 20, 121] []
abbrev f4o17 : List (Nat × Pop) := [
  (0, ⟨(some 122), .load true 4 (.tmp 12), none⟩),
  (1, ⟨(some 123), .load true 4 (.tmp 5), none⟩),
  (2, ⟨(some 124), .call 16 [(.tmp 122), (.tmp 123)], none⟩),
  (3, ⟨(some 125), .mv (.tmp 124), none⟩),
  (4, ⟨(some 126), .mv (.tmp 8), (some (125, true))⟩),
  (5, ⟨(some 127), .bin .eql (.tmp 126) (.c (.t (.s []))), (some (125, true))⟩),
  (6, ⟨(some 128), .pick (.tmp 125) (.tmp 127) (.c (.t (.b false))), none⟩),
  (7, ⟨(some 129), .mv (.tmp 128), none⟩),
  (8, ⟨(some 130), .mv (.tmp 9), (some (129, true))⟩),
  (9, ⟨(some 131), .un .not (.tmp 130), (some (129, true))⟩),
  (10, ⟨(some 132), .pick (.tmp 129) (.tmp 131) (.c (.t (.b false))), none⟩),
  (11, ⟨(some 133), .mv (.tmp 132), none⟩),
  (12, ⟨(some 134), .mv (.tmp 10), (some (133, true))⟩),
  (13, ⟨(some 135), .mv (.tmp 20), (some (133, true))⟩),
  (14, ⟨(some 136), .bin .eql (.tmp 134) (.tmp 135), (some (133, true))⟩),
  (15, ⟨(some 137), .pick (.tmp 133) (.tmp 136) (.c (.t (.b false))), none⟩),
  (16, ⟨(some 138), .mv (.tmp 137), none⟩),
  (17, ⟨(some 139), .call 9 [], (some (138, true))⟩),
  (18, ⟨(some 140), .pick (.tmp 138) (.tmp 139) (.c (.t (.b false))), none⟩),
  (19, ⟨(some 4), .mv (.tmp 140), none⟩)]
abbrev f4r17 : Pc := .reg f4o17 [4] [5, 12, 18]
abbrev f4o18 : List (Nat × Pop) := [
  (0, ⟨(some 141), .load true 2 (.tmp 18), none⟩),
  (1, ⟨(some 142), .fad 2 (.tmp 5), none⟩),
  (2, ⟨none, .store 2 (.tmp 142) (.tmp 141), none⟩)]
abbrev f4r18 : Pc := .reg f4o18 [5, 8, 9, 10, 12, 16, 20] [18]
abbrev f4o19 : List (Nat × Pop) := [
  (0, ⟨(some 143), .load true 4 (.tmp 12), none⟩),
  (1, ⟨(some 144), .load true 4 (.tmp 5), none⟩),
  (2, ⟨(some 145), .call 16 [(.tmp 143), (.tmp 144)], none⟩),
  (3, ⟨(some 146), .mv (.tmp 145), none⟩),
  (4, ⟨(some 147), .mv (.tmp 8), (some (146, true))⟩),
  (5, ⟨(some 148), .mv (.tmp 16), (some (146, true))⟩),
  (6, ⟨(some 149), .bin .eql (.tmp 147) (.tmp 148), (some (146, true))⟩),
  (7, ⟨(some 150), .pick (.tmp 146) (.tmp 149) (.c (.t (.b false))), none⟩),
  (8, ⟨(some 151), .mv (.tmp 150), none⟩),
  (9, ⟨(some 152), .mv (.tmp 9), (some (151, true))⟩),
  (10, ⟨(some 153), .pick (.tmp 151) (.tmp 152) (.c (.t (.b false))), none⟩),
  (11, ⟨(some 154), .mv (.tmp 153), none⟩),
  (12, ⟨(some 155), .mv (.tmp 10), (some (154, true))⟩),
  (13, ⟨(some 156), .mv (.tmp 20), (some (154, true))⟩),
  (14, ⟨(some 157), .bin .eql (.tmp 155) (.tmp 156), (some (154, true))⟩),
  (15, ⟨(some 158), .pick (.tmp 154) (.tmp 157) (.c (.t (.b false))), none⟩),
  (16, ⟨(some 159), .mv (.tmp 158), none⟩),
  (17, ⟨(some 160), .call 9 [], (some (159, true))⟩),
  (18, ⟨(some 161), .pick (.tmp 159) (.tmp 160) (.c (.t (.b false))), none⟩),
  (19, ⟨(some 4), .mv (.tmp 161), none⟩)]
abbrev f4r19 : Pc := .reg f4o19 [4] [5, 12]
abbrev f4b : Pc := (.seq f4r0 (.seq f4r1 (.seq (.seq f4r2 (.cond (.tmp 33) (.seq f4r3 .ret) .skip)) (.seq f4r4 (.seq f4r5 (.seq f4r6 (.seq (.seq f4r7 (.cond (.tmp 62) (.seq f4r8 .ret) .skip)) (.seq (.seq f4r9 (.cond (.tmp 64) (.seq f4r10 .ret) .skip)) (.seq (.seq f4r11 (.cond (.tmp 84) (.seq f4r12 (.seq f4r13 .ret)) .skip)) (.seq f4r14 (.seq f4r15 (.seq (.seq f4r16 (.cond (.tmp 121) (.seq f4r17 .ret) .skip)) (.seq f4r18 (.seq f4r19 .ret))))))))))))))
abbrev f4 : Pfn := ⟨2, 162, [.tmp 4], f4b⟩
def f4K : Array (List Nat) := #[[1, 2], [1, 2, 5, 6], [1, 2, 5, 33], [4], [1, 5, 7, 8, 9, 10, 11], [1, 5, 8, 9, 10, 11, 12, 13], [5, 8, 9, 10, 11, 12, 13, 14, 15, 16, 17], [5, 8, 9, 10, 12, 14, 15, 16, 17, 62], [4], [5, 8, 9, 10, 12, 14, 15, 16, 64], [4], [5, 8, 9, 10, 12, 15, 16, 84], [5, 8, 9, 10, 12], [4], [5, 8, 9, 10, 12, 15, 16, 18, 19], [5, 8, 9, 10, 12, 16, 18, 19, 20], [5, 8, 9, 10, 12, 16, 18, 20, 121], [4], [5, 8, 9, 10, 12, 16, 20], [4]]
def f4H : Array (List Nat) := #[[], [], [], [2, 5], [2], [7], [], [], [5, 12], [], [5, 12], [], [], [5, 12], [], [], [], [5, 12, 18], [18], [5, 12]]
def f4A : Ann := ⟨fun r => f4K.getD r [], fun r => f4H.getD r [], fun r i => ([] : List (Nat × Nat)).contains (r, i)⟩
theorem f4C : compF Go.Proofs.Try.prog f4A 4 = some f4 := by kernel_rfl

/-- switchboard/switchboardlaw23.PortBusy -/
abbrev f6o0 : List (Nat × Pop) := [
  (0, ⟨(some 2), .mv (.c (.t (.b false))), none⟩)]
abbrev f6r0 : Pc := .reg f6o0 [0] []
abbrev f6o1 : List (Nat × Pop) := [
  (0, ⟨(some 3), .alloc 40 [(.t (.i .i64 0)), .nl, (.t (.i .i64 0)), .nl], none⟩)]
abbrev f6r1 : Pc := .reg f6o1 [0, 3] []
abbrev f6o2 : List (Nat × Pop) := [
  (0, ⟨(some 18), .mv (.c (.t (.i .i64 0))), none⟩)]
abbrev f6r2 : Pc := .reg f6o2 [0, 3, 18] []
abbrev f6o3 : List (Nat × Pop) := [
  (0, ⟨(some 19), .bin .lss (.tmp 18) (.c (.t (.i .i64 32))), none⟩)]
abbrev f6r3 : Pc := .reg f6o3 [0, 3, 18, 19] []
abbrev f6o4 : List (Nat × Pop) := [
  (0, ⟨(some 20), .mv (.tmp 18), none⟩),
  (1, ⟨(some 4), .mv (.tmp 20), none⟩)]
abbrev f6r4 : Pc := .reg f6o4 [0, 3, 4, 18] []
abbrev f6o5 : List (Nat × Pop) := [
  (0, ⟨(some 22), .load true 4 (.tmp 3), none⟩),
  (1, ⟨(some 23), .call 23 [(.tmp 22), (.c (.t (.s [120])))], none⟩),
  (2, ⟨(some 21), .mv (.tmp 23), none⟩),
  (3, ⟨(some 24), .ext 0 (.tmp 21), none⟩),
  (4, ⟨(some 25), .ext 1 (.tmp 21), none⟩),
  (5, ⟨(some 26), .ext 2 (.tmp 21), none⟩),
  (6, ⟨(some 5), .alloc 40 [(.t (.i .i64 0)), .nl, (.t (.i .i64 0)), .nl], none⟩),
  (7, ⟨none, .store 4 (.tmp 5) (.tmp 24), none⟩),
  (8, ⟨(some 6), .mv (.tmp 25), none⟩),
  (9, ⟨(some 7), .mv (.tmp 26), none⟩)]
abbrev f6r5 : Pc := .reg f6o5 [0, 3, 4, 5, 7, 18] []
abbrev f6o6 : List (Nat × Pop) := [
  (0, ⟨(some 27), .mv (.tmp 7), none⟩),
  (1, ⟨(some 28), .bin .neq (.tmp 27) (.c (.t (.i .i64 0))), none⟩),
  (2, ⟨(some 29), .mv (.tmp 28), none⟩),
  (3, ⟨(some 30), .fad 0 (.tmp 5), (some (29, false))⟩),
  (4, ⟨(some 31), .fad 0 (.tmp 30), (some (29, false))⟩),
  (5, ⟨(some 32), .load false 1 (.tmp 31), (some (29, false))⟩),
  (6, ⟨(some 33), .mv (.tmp 4), (some (29, false))⟩),
  (7, ⟨(some 34), .bin .add (.tmp 33) (.c (.t (.i .i64 1))), (some (29, false))⟩),
  (8, ⟨(some 35), .bin .neq (.tmp 32) (.tmp 34), (some (29, false))⟩),
  (9, ⟨(some 36), .pick (.tmp 29) (.c (.t (.b true))) (.tmp 35), none⟩)]
abbrev f6r6 : Pc := .reg f6o6 [0, 3, 5, 18, 36] []
abbrev f6o7 : List (Nat × Pop) := [
  (0, ⟨(some 2), .mv (.c (.t (.b false))), none⟩)]
abbrev f6r7 : Pc := .reg f6o7 [2] [3, 5]
abbrev f6o8 : List (Nat × Pop) := [
  (0, ⟨(some 37), .load true 4 (.tmp 5), none⟩),
  (1, ⟨none, .store 4 (.tmp 3) (.tmp 37), none⟩)]
abbrev f6r8 : Pc := .reg f6o8 [0, 3, 18] [5]
abbrev f6o9 : List (Nat × Pop) := [
  (0, ⟨(some 38), .bin .add (.tmp 18) (.c (.t (.i .i64 1))), none⟩),
  (1, ⟨(some 18), .mv (.tmp 38), none⟩)]
abbrev f6r9 : Pc := .reg f6o9 [0, 3, 18] []
def f6l0 : Pc := (.seq f6r3 (.seq (.cond (.tmp 19) .skip (.exit 0)) (.seq (.block 1 (.seq f6r4 (.seq f6r5 (.seq (.seq f6r6 (.cond (.tmp 36) (.seq f6r7 .ret) .skip)) f6r8)))) f6r9)))
theorem f6l0e (C : Cfg) (s : St) : evL C f6l0 s = evL C (.seq f6r3 (.seq (.cond (.tmp 19) .skip (.exit 0)) (.seq (.block 1 (.seq f6r4 (.seq f6r5 (.seq (.seq f6r6 (.cond (.tmp 36) (.seq f6r7 .ret) .skip)) f6r8)))) f6r9))) s := rfl
abbrev f6o10 : List (Nat × Pop) := [
  (0, ⟨(some 40), .load true 4 (.tmp 3), none⟩),
  (1, ⟨(some 41), .call 23 [(.tmp 40), (.c (.t (.s [120])))], none⟩),
  (2, ⟨(some 39), .mv (.tmp 41), none⟩),
  (3, ⟨(some 42), .ext 0 (.tmp 39), none⟩),
  (4, ⟨(some 43), .ext 1 (.tmp 39), none⟩),
  (5, ⟨(some 44), .ext 2 (.tmp 39), none⟩),
  (6, ⟨(some 8), .alloc 40 [(.t (.i .i64 0)), .nl, (.t (.i .i64 0)), .nl], none⟩),
  (7, ⟨none, .store 4 (.tmp 8) (.tmp 42), none⟩),
  (8, ⟨(some 9), .mv (.tmp 43), none⟩),
  (9, ⟨(some 10), .mv (.tmp 44), none⟩)]
abbrev f6r10 : Pc := .reg f6o10 [0, 3, 9, 10] [8]
abbrev f6o11 : List (Nat × Pop) := [
  (0, ⟨(some 45), .fad 0 (.tmp 3), none⟩),
  (1, ⟨(some 46), .load true 2 (.tmp 45), none⟩),
  (2, ⟨(some 47), .mv (.tmp 0), none⟩),
  (3, ⟨(some 48), .bin .rem (.tmp 47) (.c (.t (.i .u8 31))), none⟩),
  (4, ⟨(some 49), .cvi .i64 (.tmp 48), none⟩),
  (5, ⟨(some 50), .bin .add (.c (.t (.i .i64 1))) (.tmp 49), none⟩),
  (6, ⟨(some 51), .call 24 [(.tmp 46), (.tmp 50)], none⟩),
  (7, ⟨(some 11), .alloc 35 [(.t (.i .i64 0)), .nl], none⟩),
  (8, ⟨none, .store 2 (.tmp 11) (.tmp 51), none⟩)]
abbrev f6r11 : Pc := .reg f6o11 [3, 9, 10, 11] []
abbrev f6o12 : List (Nat × Pop) := [
  (0, ⟨(some 53), .load true 2 (.tmp 11), none⟩),
  (1, ⟨(some 54), .build [(.t (.i .i64 0)), .nl, (.t (.i .i64 0)), .nl] [(0, 2, (.tmp 53))], none⟩),
  (2, ⟨(some 55), .call 23 [(.tmp 54), (.c (.t (.s [120])))], none⟩),
  (3, ⟨(some 52), .mv (.tmp 55), none⟩),
  (4, ⟨(some 56), .ext 0 (.tmp 52), none⟩),
  (5, ⟨(some 57), .ext 1 (.tmp 52), none⟩),
  (6, ⟨(some 58), .ext 2 (.tmp 52), none⟩),
  (7, ⟨(some 12), .alloc 40 [(.t (.i .i64 0)), .nl, (.t (.i .i64 0)), .nl], none⟩),
  (8, ⟨none, .store 4 (.tmp 12) (.tmp 56), none⟩),
  (9, ⟨(some 13), .mv (.tmp 57), none⟩),
  (10, ⟨(some 14), .mv (.tmp 58), none⟩)]
abbrev f6r12 : Pc := .reg f6o12 [3, 9, 10, 14] [11, 12]
abbrev f6o13 : List (Nat × Pop) := [
  (0, ⟨(some 60), .fad 0 (.tmp 3), none⟩),
  (1, ⟨(some 61), .load true 2 (.tmp 60), none⟩),
  (2, ⟨(some 62), .call 24 [(.tmp 61), (.c (.t (.i .i64 0)))], none⟩),
  (3, ⟨(some 63), .build [(.t (.i .i64 0)), .nl, (.t (.i .i64 0)), .nl] [(0, 2, (.tmp 62))], none⟩),
  (4, ⟨(some 64), .call 23 [(.tmp 63), (.c (.t (.s [120])))], none⟩),
  (5, ⟨(some 59), .mv (.tmp 64), none⟩),
  (6, ⟨(some 65), .ext 0 (.tmp 59), none⟩),
  (7, ⟨(some 66), .ext 1 (.tmp 59), none⟩),
  (8, ⟨(some 67), .ext 2 (.tmp 59), none⟩),
  (9, ⟨(some 15), .alloc 40 [(.t (.i .i64 0)), .nl, (.t (.i .i64 0)), .nl], none⟩),
  (10, ⟨none, .store 4 (.tmp 15) (.tmp 65), none⟩),
  (11, ⟨(some 16), .mv (.tmp 66), none⟩),
  (12, ⟨(some 17), .mv (.tmp 67), none⟩)]
abbrev f6r13 : Pc := .reg f6o13 [9, 10, 14, 15, 17] [3]
abbrev f6o14 : List (Nat × Pop) := [
  (0, ⟨(some 68), .mv (.tmp 9), none⟩),
  (1, ⟨(some 69), .bin .eql (.tmp 68) (.c (.t (.s []))), none⟩),
  (2, ⟨(some 70), .mv (.tmp 69), none⟩),
  (3, ⟨(some 71), .mv (.tmp 10), (some (70, true))⟩),
  (4, ⟨(some 72), .bin .eql (.tmp 71) (.c (.t (.i .i64 8))), (some (70, true))⟩),
  (5, ⟨(some 73), .pick (.tmp 70) (.tmp 72) (.c (.t (.b false))), none⟩),
  (6, ⟨(some 74), .mv (.tmp 73), none⟩),
  (7, ⟨(some 75), .mv (.tmp 14), (some (74, true))⟩),
  (8, ⟨(some 76), .bin .eql (.tmp 75) (.c (.t (.i .i64 8))), (some (74, true))⟩),
  (9, ⟨(some 77), .pick (.tmp 74) (.tmp 76) (.c (.t (.b false))), none⟩),
  (10, ⟨(some 78), .mv (.tmp 77), none⟩),
  (11, ⟨(some 79), .mv (.tmp 17), (some (78, true))⟩),
  (12, ⟨(some 80), .bin .eql (.tmp 79) (.c (.t (.i .i64 0))), (some (78, true))⟩),
  (13, ⟨(some 81), .pick (.tmp 78) (.tmp 80) (.c (.t (.b false))), none⟩),
  (14, ⟨(some 82), .mv (.tmp 81), none⟩),
  (15, ⟨(some 83), .fad 0 (.tmp 15), (some (82, true))⟩),
  (16, ⟨(some 84), .fad 0 (.tmp 83), (some (82, true))⟩),
  (17, ⟨(some 85), .load false 1 (.tmp 84), (some (82, true))⟩),
  (18, ⟨(some 86), .bin .eql (.tmp 85) (.c (.t (.i .i64 33))), (some (82, true))⟩),
  (19, ⟨(some 87), .pick (.tmp 82) (.tmp 86) (.c (.t (.b false))), none⟩),
  (20, ⟨(some 88), .mv (.tmp 87), none⟩),
  (21, ⟨(some 89), .call 9 [], (some (88, true))⟩),
  (22, ⟨(some 90), .pick (.tmp 88) (.tmp 89) (.c (.t (.b false))), none⟩),
  (23, ⟨(some 2), .mv (.tmp 90), none⟩)]
abbrev f6r14 : Pc := .reg f6o14 [2] [15]
abbrev f6b : Pc := (.seq f6r0 (.seq f6r1 (.seq (.seq f6r2 (.block 0 (.loop f6l0))) (.seq f6r10 (.seq f6r11 (.seq f6r12 (.seq f6r13 (.seq f6r14 .ret))))))))
abbrev f6 : Pfn := ⟨1, 91, [.tmp 2], f6b⟩
def f6K : Array (List Nat) := #[[0], [0, 3], [0, 3, 18], [0, 3, 18, 19], [0, 3, 4, 18], [0, 3, 4, 5, 7, 18], [0, 3, 5, 18, 36], [2], [0, 3, 18], [0, 3, 18], [0, 3, 9, 10], [3, 9, 10, 11], [3, 9, 10, 14], [9, 10, 14, 15, 17], [2]]
def f6H : Array (List Nat) := #[[], [], [], [], [], [], [], [3, 5], [5], [], [8], [], [11, 12], [3], [15]]
def f6A : Ann := ⟨fun r => f6K.getD r [], fun r => f6H.getD r [], fun r i => ([] : List (Nat × Nat)).contains (r, i)⟩
theorem f6C : compF Go.Proofs.Try.prog f6A 6 = some f6 := by kernel_rfl

/-- switchboard/switchboardlaw23.PortBack -/
abbrev f7o0 : List (Nat × Pop) := [
  (0, ⟨(some 10), .mv (.c (.t (.b false))), none⟩)]
abbrev f7r0 : Pc := .reg f7o0 [0, 1, 2, 3, 4] []
abbrev f7o1 : List (Nat × Pop) := [
  (0, ⟨(some 24), .mv (.tmp 1), none⟩),
  (1, ⟨(some 25), .lenS (.tmp 24), none⟩),
  (2, ⟨(some 26), .bin .gtr (.tmp 25) (.c (.t (.i .i64 100))), none⟩)]
abbrev f7r1 : Pc := .reg f7o1 [0, 1, 2, 3, 4, 26] []
abbrev f7o2 : List (Nat × Pop) := [
  (0, ⟨(some 27), .call 9 [], none⟩),
  (1, ⟨(some 10), .mv (.tmp 27), none⟩)]
abbrev f7r2 : Pc := .reg f7o2 [10] []
abbrev f7o3 : List (Nat × Pop) := [
  (0, ⟨(some 28), .mv (.tmp 0), none⟩),
  (1, ⟨(some 29), .bin .rem (.tmp 28) (.c (.t (.i .u32 2147483648))), none⟩),
  (2, ⟨(some 30), .cvi .i64 (.tmp 29), none⟩),
  (3, ⟨(some 11), .mv (.c (.t (.i .u8 68))), none⟩),
  (4, ⟨(some 12), .mv (.tmp 30), none⟩)]
abbrev f7r3 : Pc := .reg f7o3 [1, 2, 3, 4, 11, 12] []
abbrev f7o4 : List (Nat × Pop) := [
  (0, ⟨(some 31), .mv (.tmp 2), none⟩)]
abbrev f7r4 : Pc := .reg f7o4 [1, 3, 4, 11, 12, 31] []
abbrev f7o5 : List (Nat × Pop) := [
  (0, ⟨(some 11), .mv (.c (.t (.i .u8 65))), none⟩),
  (1, ⟨(some 1), .mv (.c (.t (.s []))), none⟩)]
abbrev f7r5 : Pc := .reg f7o5 [1, 3, 4, 11, 12] []
abbrev f7o6 : List (Nat × Pop) := [
  (0, ⟨(some 33), .mv (.tmp 11), none⟩),
  (1, ⟨(some 34), .mv (.tmp 12), none⟩),
  (2, ⟨(some 35), .mv (.tmp 1), none⟩),
  (3, ⟨(some 36), .call 10 [(.tmp 33), (.tmp 34), (.tmp 35)], none⟩),
  (4, ⟨(some 32), .mv (.tmp 36), none⟩),
  (5, ⟨(some 37), .ext 0 (.tmp 32), none⟩),
  (6, ⟨(some 38), .ext 1 (.tmp 32), none⟩),
  (7, ⟨(some 13), .mv (.tmp 37), none⟩),
  (8, ⟨(some 14), .mv (.tmp 38), none⟩)]
abbrev f7r6 : Pc := .reg f7o6 [1, 3, 4, 11, 12, 13, 14] []
abbrev f7o7 : List (Nat × Pop) := [
  (0, ⟨(some 39), .mv (.tmp 14), none⟩),
  (1, ⟨(some 40), .bin .neq (.tmp 39) (.c (.t (.i .i64 0))), none⟩),
  (2, ⟨(some 41), .mv (.tmp 40), none⟩),
  (3, ⟨(some 42), .mv (.tmp 13), (some (41, false))⟩),
  (4, ⟨(some 43), .lenS (.tmp 42), (some (41, false))⟩),
  (5, ⟨(some 44), .mv (.tmp 1), (some (41, false))⟩),
  (6, ⟨(some 45), .lenS (.tmp 44), (some (41, false))⟩),
  (7, ⟨(some 46), .bin .add (.c (.t (.i .i64 9))) (.tmp 45), (some (41, false))⟩),
  (8, ⟨(some 47), .bin .neq (.tmp 43) (.tmp 46), (some (41, false))⟩),
  (9, ⟨(some 48), .pick (.tmp 41) (.c (.t (.b true))) (.tmp 47), none⟩)]
abbrev f7r7 : Pc := .reg f7o7 [1, 3, 4, 11, 12, 13, 48] []
abbrev f7o8 : List (Nat × Pop) := [
  (0, ⟨(some 10), .mv (.c (.t (.b false))), none⟩)]
abbrev f7r8 : Pc := .reg f7o8 [10] []
abbrev f7o9 : List (Nat × Pop) := [
  (0, ⟨(some 49), .mv (.tmp 13), none⟩),
  (1, ⟨(some 50), .sbs 5 (.tmp 49), none⟩),
  (2, ⟨(some 15), .mv (.tmp 50), none⟩)]
abbrev f7r9 : Pc := .reg f7o9 [1, 3, 4, 11, 12, 13, 15] []
abbrev f7o10 : List (Nat × Pop) := [
  (0, ⟨(some 51), .mv (.tmp 15), none⟩),
  (1, ⟨(some 52), .mv (.tmp 3), none⟩),
  (2, ⟨(some 53), .cvi .i64 (.tmp 52), none⟩),
  (3, ⟨(some 54), .mv (.tmp 15), none⟩),
  (4, ⟨(some 55), .lenL (.tmp 54), none⟩),
  (5, ⟨(some 56), .bin .rem (.tmp 53) (.tmp 55), none⟩),
  (6, ⟨(some 57), .ixS 1 (.tmp 51) (.tmp 56), none⟩),
  (7, ⟨(some 58), .load false 1 (.tmp 57), none⟩),
  (8, ⟨(some 59), .mv (.tmp 4), none⟩),
  (9, ⟨(some 60), .bin .rem (.tmp 59) (.c (.t (.i .u8 8))), none⟩),
  (10, ⟨(some 61), .bin .shl (.c (.t (.i .u8 1))) (.tmp 60), none⟩),
  (11, ⟨(some 62), .bin .xor (.tmp 58) (.tmp 61), none⟩),
  (12, ⟨(some 63), .ixS 1 (.tmp 51) (.tmp 56), none⟩),
  (13, ⟨none, .store 1 (.tmp 63) (.tmp 62), none⟩)]
abbrev f7r10 : Pc := .reg f7o10 [1, 11, 12, 13, 15] []
abbrev f7o11 : List (Nat × Pop) := [
  (0, ⟨(some 65), .mv (.tmp 13), none⟩),
  (1, ⟨(some 66), .call 12 [(.tmp 65)], none⟩),
  (2, ⟨(some 64), .mv (.tmp 66), none⟩),
  (3, ⟨(some 67), .ext 0 (.tmp 64), none⟩),
  (4, ⟨(some 68), .ext 1 (.tmp 64), none⟩),
  (5, ⟨(some 69), .ext 2 (.tmp 64), none⟩),
  (6, ⟨(some 70), .ext 3 (.tmp 64), none⟩),
  (7, ⟨(some 16), .mv (.tmp 67), none⟩),
  (8, ⟨(some 17), .mv (.tmp 68), none⟩),
  (9, ⟨(some 18), .mv (.tmp 69), none⟩),
  (10, ⟨(some 19), .mv (.tmp 70), none⟩)]
abbrev f7r11 : Pc := .reg f7o11 [1, 11, 12, 15, 16, 17, 18, 19] []
abbrev f7o12 : List (Nat × Pop) := [
  (0, ⟨(some 72), .mv (.tmp 15), none⟩),
  (1, ⟨(some 73), .cvbs (.tmp 72), none⟩),
  (2, ⟨(some 74), .call 12 [(.tmp 73)], none⟩),
  (3, ⟨(some 71), .mv (.tmp 74), none⟩),
  (4, ⟨(some 75), .ext 0 (.tmp 71), none⟩),
  (5, ⟨(some 76), .ext 1 (.tmp 71), none⟩),
  (6, ⟨(some 77), .ext 2 (.tmp 71), none⟩),
  (7, ⟨(some 78), .ext 3 (.tmp 71), none⟩),
  (8, ⟨(some 20), .mv (.tmp 75), none⟩),
  (9, ⟨(some 21), .mv (.tmp 76), none⟩),
  (10, ⟨(some 22), .mv (.tmp 77), none⟩),
  (11, ⟨(some 23), .mv (.tmp 78), none⟩)]
abbrev f7r12 : Pc := .reg f7o12 [1, 11, 12, 16, 17, 18, 19, 23] [50]
abbrev f7o13 : List (Nat × Pop) := [
  (0, ⟨(some 79), .mv (.tmp 16), none⟩),
  (1, ⟨(some 80), .mv (.tmp 11), none⟩),
  (2, ⟨(some 81), .bin .eql (.tmp 79) (.tmp 80), none⟩),
  (3, ⟨(some 82), .mv (.tmp 81), none⟩),
  (4, ⟨(some 83), .mv (.tmp 17), (some (82, true))⟩),
  (5, ⟨(some 84), .mv (.tmp 12), (some (82, true))⟩),
  (6, ⟨(some 85), .bin .eql (.tmp 83) (.tmp 84), (some (82, true))⟩),
  (7, ⟨(some 86), .pick (.tmp 82) (.tmp 85) (.c (.t (.b false))), none⟩),
  (8, ⟨(some 87), .mv (.tmp 86), none⟩),
  (9, ⟨(some 88), .mv (.tmp 18), (some (87, true))⟩),
  (10, ⟨(some 89), .mv (.tmp 1), (some (87, true))⟩),
  (11, ⟨(some 90), .bin .eql (.tmp 88) (.tmp 89), (some (87, true))⟩),
  (12, ⟨(some 91), .pick (.tmp 87) (.tmp 90) (.c (.t (.b false))), none⟩),
  (13, ⟨(some 92), .mv (.tmp 91), none⟩),
  (14, ⟨(some 93), .mv (.tmp 19), (some (92, true))⟩),
  (15, ⟨(some 94), .bin .eql (.tmp 93) (.c (.t (.i .i64 0))), (some (92, true))⟩),
  (16, ⟨(some 95), .pick (.tmp 92) (.tmp 94) (.c (.t (.b false))), none⟩),
  (17, ⟨(some 96), .mv (.tmp 95), none⟩),
  (18, ⟨(some 97), .mv (.tmp 23), (some (96, true))⟩),
  (19, ⟨(some 98), .bin .eql (.tmp 97) (.c (.t (.i .i64 9))), (some (96, true))⟩),
  (20, ⟨(some 99), .pick (.tmp 96) (.tmp 98) (.c (.t (.b false))), none⟩),
  (21, ⟨(some 100), .mv (.tmp 99), none⟩),
  (22, ⟨(some 101), .call 9 [], (some (100, true))⟩),
  (23, ⟨(some 102), .pick (.tmp 100) (.tmp 101) (.c (.t (.b false))), none⟩),
  (24, ⟨(some 10), .mv (.tmp 102), none⟩)]
abbrev f7r13 : Pc := .reg f7o13 [10] []
abbrev f7b : Pc := (.seq f7r0 (.seq (.seq f7r1 (.cond (.tmp 26) (.seq f7r2 .ret) .skip)) (.seq f7r3 (.seq (.seq f7r4 (.cond (.tmp 31) f7r5 .skip)) (.seq f7r6 (.seq (.seq f7r7 (.cond (.tmp 48) (.seq f7r8 .ret) .skip)) (.seq f7r9 (.seq f7r10 (.seq f7r11 (.seq f7r12 (.seq f7r13 .ret)))))))))))
abbrev f7 : Pfn := ⟨5, 103, [.tmp 10], f7b⟩
def f7K : Array (List Nat) := #[[0, 1, 2, 3, 4], [0, 1, 2, 3, 4, 26], [10], [1, 2, 3, 4, 11, 12], [1, 3, 4, 11, 12, 31], [1, 3, 4, 11, 12], [1, 3, 4, 11, 12, 13, 14], [1, 3, 4, 11, 12, 13, 48], [10], [1, 3, 4, 11, 12, 13, 15], [1, 11, 12, 13, 15], [1, 11, 12, 15, 16, 17, 18, 19], [1, 11, 12, 16, 17, 18, 19, 23], [10]]
def f7H : Array (List Nat) := #[[], [], [], [], [], [], [], [], [], [], [], [], [50], []]
def f7A : Ann := ⟨fun r => f7K.getD r [], fun r => f7H.getD r [], fun r i => ([] : List (Nat × Nat)).contains (r, i)⟩
theorem f7C : compF Go.Proofs.Try.prog f7A 7 = some f7 := by kernel_rfl

/-- switchboard/switchboardlaw23.PortFlows -/
abbrev f8o0 : List (Nat × Pop) := [
  (0, ⟨(some 2), .mv (.c (.t (.b false))), none⟩)]
abbrev f8r0 : Pc := .reg f8o0 [0] []
abbrev f8o1 : List (Nat × Pop) := [
  (0, ⟨(some 3), .alloc 40 [(.t (.i .i64 0)), .nl, (.t (.i .i64 0)), .nl], none⟩),
  (1, ⟨(some 4), .alloc 40 [(.t (.i .i64 0)), .nl, (.t (.i .i64 0)), .nl], none⟩)]
abbrev f8r1 : Pc := .reg f8o1 [0, 3, 4] []
abbrev f8o2 : List (Nat × Pop) := [
  (0, ⟨(some 5), .mv (.c (.t (.i .i64 0))), none⟩)]
abbrev f8r2 : Pc := .reg f8o2 [0, 3, 4, 5] []
abbrev f8o3 : List (Nat × Pop) := [
  (0, ⟨(some 19), .mv (.tmp 5), none⟩),
  (1, ⟨(some 20), .mv (.tmp 0), none⟩),
  (2, ⟨(some 21), .lenL (.tmp 20), none⟩),
  (3, ⟨(some 22), .bin .lss (.tmp 19) (.tmp 21), none⟩),
  (4, ⟨(some 23), .mv (.tmp 22), none⟩),
  (5, ⟨(some 24), .mv (.tmp 5), (some (23, true))⟩),
  (6, ⟨(some 25), .bin .lss (.tmp 24) (.c (.t (.i .i64 200))), (some (23, true))⟩),
  (7, ⟨(some 26), .pick (.tmp 23) (.tmp 25) (.c (.t (.b false))), none⟩)]
abbrev f8r3 : Pc := .reg f8o3 [0, 3, 4, 5, 26] []
abbrev f8o5 : List (Nat × Pop) := [
  (0, ⟨(some 29), .mv (.tmp 0), none⟩),
  (1, ⟨(some 30), .mv (.tmp 5), none⟩),
  (2, ⟨(some 31), .ixS 1 (.tmp 29) (.tmp 30), none⟩),
  (3, ⟨(some 32), .load false 1 (.tmp 31), none⟩),
  (4, ⟨(some 33), .lenS (.tmp 32), none⟩),
  (5, ⟨(some 34), .bin .gtr (.tmp 33) (.c (.t (.i .i64 20))), none⟩)]
abbrev f8r5 : Pc := .reg f8o5 [0, 3, 4, 5, 34] []
abbrev f8o6 : List (Nat × Pop) := [
  (0, ⟨(some 35), .call 9 [], none⟩),
  (1, ⟨(some 2), .mv (.tmp 35), none⟩)]
abbrev f8r6 : Pc := .reg f8o6 [2] [3, 4]
abbrev f8o7 : List (Nat × Pop) := [
  (0, ⟨(some 37), .load true 4 (.tmp 3), none⟩),
  (1, ⟨(some 38), .mv (.tmp 0), none⟩),
  (2, ⟨(some 39), .mv (.tmp 5), none⟩),
  (3, ⟨(some 40), .ixS 1 (.tmp 38) (.tmp 39), none⟩),
  (4, ⟨(some 41), .load false 1 (.tmp 40), none⟩),
  (5, ⟨(some 42), .callq 23 [(.tmp 37), (.tmp 41)], none⟩),
  (6, ⟨(some 36), .mv (.tmp 42), none⟩),
  (7, ⟨(some 43), .ext 0 (.tmp 36), none⟩),
  (8, ⟨(some 44), .ext 1 (.tmp 36), none⟩),
  (9, ⟨(some 45), .ext 2 (.tmp 36), none⟩),
  (10, ⟨(some 6), .alloc 40 [(.t (.i .i64 0)), .nl, (.t (.i .i64 0)), .nl], none⟩),
  (11, ⟨none, .store 4 (.tmp 6) (.tmp 43), none⟩),
  (12, ⟨(some 7), .mv (.tmp 44), none⟩),
  (13, ⟨(some 8), .mv (.tmp 45), none⟩)]
abbrev f8r7 : Pc := .reg f8o7 [0, 3, 4, 5, 6, 7, 8] []
abbrev f8o8 : List (Nat × Pop) := [
  (0, ⟨(some 47), .load true 4 (.tmp 4), none⟩),
  (1, ⟨(some 48), .mv (.tmp 7), none⟩),
  (2, ⟨(some 49), .call 15 [(.tmp 47), (.tmp 48)], none⟩),
  (3, ⟨(some 46), .mv (.tmp 49), none⟩),
  (4, ⟨(some 50), .ext 0 (.tmp 46), none⟩),
  (5, ⟨(some 51), .ext 1 (.tmp 46), none⟩),
  (6, ⟨(some 52), .ext 2 (.tmp 46), none⟩),
  (7, ⟨(some 53), .ext 3 (.tmp 46), none⟩),
  (8, ⟨(some 54), .ext 4 (.tmp 46), none⟩),
  (9, ⟨(some 9), .alloc 40 [(.t (.i .i64 0)), .nl, (.t (.i .i64 0)), .nl], none⟩),
  (10, ⟨none, .store 4 (.tmp 9) (.tmp 50), none⟩),
  (11, ⟨(some 10), .mv (.tmp 51), none⟩),
  (12, ⟨(some 11), .mv (.tmp 52), none⟩),
  (13, ⟨(some 12), .mv (.tmp 53), none⟩),
  (14, ⟨(some 13), .mv (.tmp 54), none⟩)]
abbrev f8r8 : Pc := .reg f8o8 [0, 3, 4, 5, 6, 8, 9, 10, 11, 12, 13] []
abbrev f8o9 : List (Nat × Pop) := [
  (0, ⟨(some 56), .load true 4 (.tmp 6), none⟩),
  (1, ⟨(some 57), .mv (.tmp 12), none⟩),
  (2, ⟨(some 58), .call 15 [(.tmp 56), (.tmp 57)], none⟩),
  (3, ⟨(some 55), .mv (.tmp 58), none⟩),
  (4, ⟨(some 59), .ext 0 (.tmp 55), none⟩),
  (5, ⟨(some 60), .ext 1 (.tmp 55), none⟩),
  (6, ⟨(some 61), .ext 2 (.tmp 55), none⟩),
  (7, ⟨(some 62), .ext 3 (.tmp 55), none⟩),
  (8, ⟨(some 63), .ext 4 (.tmp 55), none⟩),
  (9, ⟨(some 14), .alloc 40 [(.t (.i .i64 0)), .nl, (.t (.i .i64 0)), .nl], none⟩),
  (10, ⟨none, .store 4 (.tmp 14) (.tmp 59), none⟩),
  (11, ⟨(some 15), .mv (.tmp 60), none⟩),
  (12, ⟨(some 16), .mv (.tmp 61), none⟩),
  (13, ⟨(some 17), .mv (.tmp 62), none⟩),
  (14, ⟨(some 18), .mv (.tmp 63), none⟩)]
abbrev f8r9 : Pc := .reg f8o9 [0, 3, 4, 5, 8, 9, 10, 11, 13, 14, 16, 17, 18] [6]
abbrev f8o10 : List (Nat × Pop) := [
  (0, ⟨(some 64), .mv (.tmp 8), none⟩),
  (1, ⟨(some 65), .bin .neq (.tmp 64) (.c (.t (.i .i64 0))), none⟩),
  (2, ⟨(some 66), .mv (.tmp 65), none⟩),
  (3, ⟨(some 67), .mv (.tmp 13), (some (66, false))⟩),
  (4, ⟨(some 68), .bin .neq (.tmp 67) (.c (.t (.i .i64 0))), (some (66, false))⟩),
  (5, ⟨(some 69), .pick (.tmp 66) (.c (.t (.b true))) (.tmp 68), none⟩),
  (6, ⟨(some 70), .mv (.tmp 69), none⟩),
  (7, ⟨(some 71), .mv (.tmp 18), (some (70, false))⟩),
  (8, ⟨(some 72), .bin .neq (.tmp 71) (.c (.t (.i .i64 0))), (some (70, false))⟩),
  (9, ⟨(some 73), .pick (.tmp 70) (.c (.t (.b true))) (.tmp 72), none⟩),
  (10, ⟨(some 74), .mv (.tmp 73), none⟩),
  (11, ⟨(some 75), .mv (.tmp 11), (some (74, false))⟩),
  (12, ⟨(some 76), .un .not (.tmp 75), (some (74, false))⟩),
  (13, ⟨(some 77), .pick (.tmp 74) (.c (.t (.b true))) (.tmp 76), none⟩),
  (14, ⟨(some 78), .mv (.tmp 77), none⟩),
  (15, ⟨(some 79), .mv (.tmp 16), (some (78, false))⟩),
  (16, ⟨(some 80), .pick (.tmp 78) (.c (.t (.b true))) (.tmp 79), none⟩),
  (17, ⟨(some 81), .mv (.tmp 80), none⟩),
  (18, ⟨(some 82), .mv (.tmp 17), (some (81, false))⟩),
  (19, ⟨(some 83), .bin .neq (.tmp 82) (.c (.t (.s []))), (some (81, false))⟩),
  (20, ⟨(some 84), .pick (.tmp 81) (.c (.t (.b true))) (.tmp 83), none⟩),
  (21, ⟨(some 85), .mv (.tmp 84), none⟩),
  (22, ⟨(some 86), .mv (.tmp 10), (some (85, false))⟩),
  (23, ⟨(some 87), .mv (.tmp 0), (some (85, false))⟩),
  (24, ⟨(some 88), .mv (.tmp 5), (some (85, false))⟩),
  (25, ⟨(some 89), .ixS 1 (.tmp 87) (.tmp 88), (some (85, false))⟩),
  (26, ⟨(some 90), .load false 1 (.tmp 89), (some (85, false))⟩),
  (27, ⟨(some 91), .bin .neq (.tmp 86) (.tmp 90), (some (85, false))⟩),
  (28, ⟨(some 92), .pick (.tmp 85) (.c (.t (.b true))) (.tmp 91), none⟩),
  (29, ⟨(some 93), .mv (.tmp 92), none⟩),
  (30, ⟨(some 94), .fad 0 (.tmp 14), (some (93, false))⟩),
  (31, ⟨(some 95), .fad 1 (.tmp 94), (some (93, false))⟩),
  (32, ⟨(some 96), .load false 1 (.tmp 95), (some (93, false))⟩),
  (33, ⟨(some 97), .lenL (.tmp 96), (some (93, false))⟩),
  (34, ⟨(some 98), .bin .neq (.tmp 97) (.c (.t (.i .i64 0))), (some (93, false))⟩),
  (35, ⟨(some 99), .pick (.tmp 93) (.c (.t (.b true))) (.tmp 98), none⟩),
  (36, ⟨(some 100), .mv (.tmp 99), none⟩),
  (37, ⟨(some 101), .fad 2 (.tmp 9), (some (100, false))⟩),
  (38, ⟨(some 102), .fad 0 (.tmp 101), (some (100, false))⟩),
  (39, ⟨(some 103), .load false 1 (.tmp 102), (some (100, false))⟩),
  (40, ⟨(some 104), .mv (.tmp 5), (some (100, false))⟩),
  (41, ⟨(some 105), .bin .add (.tmp 104) (.c (.t (.i .i64 1))), (some (100, false))⟩),
  (42, ⟨(some 106), .bin .neq (.tmp 103) (.tmp 105), (some (100, false))⟩),
  (43, ⟨(some 107), .pick (.tmp 100) (.c (.t (.b true))) (.tmp 106), none⟩)]
abbrev f8r10 : Pc := .reg f8o10 [0, 3, 4, 5, 9, 14, 107] []
abbrev f8o11 : List (Nat × Pop) := [
  (0, ⟨(some 2), .mv (.c (.t (.b false))), none⟩)]
abbrev f8r11 : Pc := .reg f8o11 [2] [3, 4, 9, 14]
abbrev f8o12 : List (Nat × Pop) := [
  (0, ⟨(some 108), .load true 4 (.tmp 14), none⟩),
  (1, ⟨(some 109), .load true 4 (.tmp 9), none⟩),
  (2, ⟨none, .storeD 4 (.tmp 3) (.tmp 108) [9], none⟩),
  (3, ⟨none, .store 4 (.tmp 4) (.tmp 109), none⟩)]
abbrev f8r12 : Pc := .reg f8o12 [0, 3, 4, 5] [9, 14]
abbrev f8o4 : List (Nat × Pop) := [
  (0, ⟨(some 27), .mv (.tmp 5), none⟩),
  (1, ⟨(some 28), .bin .add (.tmp 27) (.c (.t (.i .i64 1))), none⟩),
  (2, ⟨(some 5), .mv (.tmp 28), none⟩)]
abbrev f8r4 : Pc := .reg f8o4 [0, 3, 4, 5] []
def f8l0 : Pc := (.seq (.seq f8r3 (.cond (.tmp 26) .skip (.exit 0))) (.seq (.block 1 (.seq (.seq f8r5 (.cond (.tmp 34) (.seq f8r6 .ret) .skip)) (.seq f8r7 (.seq f8r8 (.seq f8r9 (.seq (.seq f8r10 (.cond (.tmp 107) (.seq f8r11 .ret) .skip)) f8r12)))))) f8r4))
theorem f8l0e (C : Cfg) (s : St) : evL C f8l0 s = evL C (.seq (.seq f8r3 (.cond (.tmp 26) .skip (.exit 0))) (.seq (.block 1 (.seq (.seq f8r5 (.cond (.tmp 34) (.seq f8r6 .ret) .skip)) (.seq f8r7 (.seq f8r8 (.seq f8r9 (.seq (.seq f8r10 (.cond (.tmp 107) (.seq f8r11 .ret) .skip)) f8r12)))))) f8r4)) s := rfl
abbrev f8o13 : List (Nat × Pop) := [
  (0, ⟨(some 110), .call 9 [], none⟩),
  (1, ⟨(some 2), .mv (.tmp 110), none⟩)]
abbrev f8r13 : Pc := .reg f8o13 [2] [3, 4]
abbrev f8b : Pc := (.seq f8r0 (.seq f8r1 (.seq (.seq f8r2 (.block 0 (.loop f8l0))) (.seq f8r13 .ret))))
abbrev f8 : Pfn := ⟨1, 111, [.tmp 2], f8b⟩
def f8K : Array (List Nat) := #[[0], [0, 3, 4], [0, 3, 4, 5], [0, 3, 4, 5, 26], [0, 3, 4, 5], [0, 3, 4, 5, 34], [2], [0, 3, 4, 5, 6, 7, 8], [0, 3, 4, 5, 6, 8, 9, 10, 11, 12, 13], [0, 3, 4, 5, 8, 9, 10, 11, 13, 14, 16, 17, 18], [0, 3, 4, 5, 9, 14, 107], [2], [0, 3, 4, 5], [2]]
def f8H : Array (List Nat) := #[[], [], [], [], [], [], [3, 4], [], [], [6], [], [3, 4, 9, 14], [9, 14], [3, 4]]
def f8A : Ann := ⟨fun r => f8K.getD r [], fun r => f8H.getD r [], fun r i => ([] : List (Nat × Nat)).contains (r, i)⟩
theorem f8C : compF Go.Proofs.Try.prog f8A 8 = some f8 := by kernel_rfl

/-- switchboard/switchboardlaw23.awake -/
abbrev f9o0 : List (Nat × Pop) := [
  (0, ⟨(some 0), .mv (.c (.t (.b false))), none⟩)]
abbrev f9r0 : Pc := .reg f9o0 [] []
abbrev f9o1 : List (Nat × Pop) := [
  (0, ⟨(some 19), .build [(.t (.i .i64 0)), .nl, (.t (.i .i64 0)), .nl] [], none⟩),
  (1, ⟨(some 20), .call 23 [(.tmp 19), (.c (.t (.s [97])))], none⟩),
  (2, ⟨(some 18), .mv (.tmp 20), none⟩),
  (3, ⟨(some 21), .ext 0 (.tmp 18), none⟩),
  (4, ⟨(some 22), .ext 1 (.tmp 18), none⟩),
  (5, ⟨(some 23), .ext 2 (.tmp 18), none⟩),
  (6, ⟨(some 1), .alloc 40 [(.t (.i .i64 0)), .nl, (.t (.i .i64 0)), .nl], none⟩),
  (7, ⟨none, .store 4 (.tmp 1) (.tmp 21), none⟩),
  (8, ⟨(some 2), .mv (.tmp 22), none⟩),
  (9, ⟨(some 3), .mv (.tmp 23), none⟩)]
abbrev f9r1 : Pc := .reg f9o1 [1, 2, 3] []
abbrev f9o2 : List (Nat × Pop) := [
  (0, ⟨(some 25), .build [(.t (.i .i64 0)), .nl, (.t (.i .i64 0)), .nl] [], none⟩),
  (1, ⟨(some 26), .mv (.tmp 2), none⟩),
  (2, ⟨(some 27), .call 15 [(.tmp 25), (.tmp 26)], none⟩),
  (3, ⟨(some 24), .mv (.tmp 27), none⟩),
  (4, ⟨(some 28), .ext 0 (.tmp 24), none⟩),
  (5, ⟨(some 29), .ext 1 (.tmp 24), none⟩),
  (6, ⟨(some 30), .ext 2 (.tmp 24), none⟩),
  (7, ⟨(some 31), .ext 3 (.tmp 24), none⟩),
  (8, ⟨(some 32), .ext 4 (.tmp 24), none⟩),
  (9, ⟨(some 4), .alloc 40 [(.t (.i .i64 0)), .nl, (.t (.i .i64 0)), .nl], none⟩),
  (10, ⟨none, .store 4 (.tmp 4) (.tmp 28), none⟩),
  (11, ⟨(some 5), .mv (.tmp 29), none⟩),
  (12, ⟨(some 6), .mv (.tmp 30), none⟩),
  (13, ⟨(some 7), .mv (.tmp 31), none⟩),
  (14, ⟨(some 8), .mv (.tmp 32), none⟩)]
abbrev f9r2 : Pc := .reg f9o2 [1, 2, 3, 4, 5, 6, 7, 8] []
abbrev f9o3 : List (Nat × Pop) := [
  (0, ⟨(some 34), .load true 4 (.tmp 4), none⟩),
  (1, ⟨(some 35), .mv (.tmp 2), none⟩),
  (2, ⟨(some 36), .call 15 [(.tmp 34), (.tmp 35)], none⟩),
  (3, ⟨(some 33), .mv (.tmp 36), none⟩),
  (4, ⟨(some 37), .ext 0 (.tmp 33), none⟩),
  (5, ⟨(some 38), .ext 1 (.tmp 33), none⟩),
  (6, ⟨(some 39), .ext 2 (.tmp 33), none⟩),
  (7, ⟨(some 40), .ext 3 (.tmp 33), none⟩),
  (8, ⟨(some 41), .ext 4 (.tmp 33), none⟩),
  (9, ⟨(some 9), .alloc 40 [(.t (.i .i64 0)), .nl, (.t (.i .i64 0)), .nl], none⟩),
  (10, ⟨none, .store 4 (.tmp 9) (.tmp 37), none⟩),
  (11, ⟨(some 10), .mv (.tmp 38), none⟩),
  (12, ⟨(some 11), .mv (.tmp 39), none⟩),
  (13, ⟨(some 12), .mv (.tmp 40), none⟩),
  (14, ⟨(some 13), .mv (.tmp 41), none⟩)]
abbrev f9r3 : Pc := .reg f9o3 [1, 3, 5, 6, 7, 8, 11] [4, 9]
abbrev f9o4 : List (Nat × Pop) := [
  (0, ⟨(some 43), .load true 4 (.tmp 1), none⟩),
  (1, ⟨(some 44), .mv (.tmp 7), none⟩),
  (2, ⟨(some 45), .call 15 [(.tmp 43), (.tmp 44)], none⟩),
  (3, ⟨(some 42), .mv (.tmp 45), none⟩),
  (4, ⟨(some 46), .ext 0 (.tmp 42), none⟩),
  (5, ⟨(some 47), .ext 1 (.tmp 42), none⟩),
  (6, ⟨(some 48), .ext 2 (.tmp 42), none⟩),
  (7, ⟨(some 49), .ext 3 (.tmp 42), none⟩),
  (8, ⟨(some 50), .ext 4 (.tmp 42), none⟩),
  (9, ⟨none, .store 4 (.tmp 1) (.tmp 46), none⟩),
  (10, ⟨(some 14), .mv (.tmp 47), none⟩),
  (11, ⟨(some 15), .mv (.tmp 48), none⟩),
  (12, ⟨(some 16), .mv (.tmp 49), none⟩),
  (13, ⟨(some 17), .mv (.tmp 50), none⟩)]
abbrev f9r4 : Pc := .reg f9o4 [1, 3, 5, 6, 8, 11, 17] []
abbrev f9o5 : List (Nat × Pop) := [
  (0, ⟨(some 51), .mv (.tmp 3), none⟩),
  (1, ⟨(some 52), .bin .eql (.tmp 51) (.c (.t (.i .i64 0))), none⟩),
  (2, ⟨(some 53), .mv (.tmp 52), none⟩),
  (3, ⟨(some 54), .mv (.tmp 5), (some (53, true))⟩),
  (4, ⟨(some 55), .bin .eql (.tmp 54) (.c (.t (.s [97]))), (some (53, true))⟩),
  (5, ⟨(some 56), .pick (.tmp 53) (.tmp 55) (.c (.t (.b false))), none⟩),
  (6, ⟨(some 57), .mv (.tmp 56), none⟩),
  (7, ⟨(some 58), .mv (.tmp 6), (some (57, true))⟩),
  (8, ⟨(some 59), .pick (.tmp 57) (.tmp 58) (.c (.t (.b false))), none⟩),
  (9, ⟨(some 60), .mv (.tmp 59), none⟩),
  (10, ⟨(some 61), .mv (.tmp 8), (some (60, true))⟩),
  (11, ⟨(some 62), .bin .eql (.tmp 61) (.c (.t (.i .i64 0))), (some (60, true))⟩),
  (12, ⟨(some 63), .pick (.tmp 60) (.tmp 62) (.c (.t (.b false))), none⟩),
  (13, ⟨(some 64), .mv (.tmp 63), none⟩),
  (14, ⟨(some 65), .mv (.tmp 11), (some (64, true))⟩),
  (15, ⟨(some 66), .un .not (.tmp 65), (some (64, true))⟩),
  (16, ⟨(some 67), .pick (.tmp 64) (.tmp 66) (.c (.t (.b false))), none⟩),
  (17, ⟨(some 68), .mv (.tmp 67), none⟩),
  (18, ⟨(some 69), .mv (.tmp 17), (some (68, true))⟩),
  (19, ⟨(some 70), .bin .eql (.tmp 69) (.c (.t (.i .i64 0))), (some (68, true))⟩),
  (20, ⟨(some 71), .pick (.tmp 68) (.tmp 70) (.c (.t (.b false))), none⟩),
  (21, ⟨(some 72), .mv (.tmp 71), none⟩),
  (22, ⟨(some 73), .fad 0 (.tmp 1), (some (72, true))⟩),
  (23, ⟨(some 74), .fad 1 (.tmp 73), (some (72, true))⟩),
  (24, ⟨(some 75), .load false 1 (.tmp 74), (some (72, true))⟩),
  (25, ⟨(some 76), .lenL (.tmp 75), (some (72, true))⟩),
  (26, ⟨(some 77), .bin .eql (.tmp 76) (.c (.t (.i .i64 0))), (some (72, true))⟩),
  (27, ⟨(some 78), .pick (.tmp 72) (.tmp 77) (.c (.t (.b false))), none⟩),
  (28, ⟨(some 79), .mv (.tmp 78), none⟩),
  (29, ⟨(some 80), .load true 4 (.tmp 1), (some (79, true))⟩),
  (30, ⟨(some 81), .call 21 [(.tmp 80)], (some (79, true))⟩),
  (31, ⟨(some 82), .lenL (.tmp 81), (some (79, true))⟩),
  (32, ⟨(some 83), .bin .eql (.tmp 82) (.c (.t (.i .i64 0))), (some (79, true))⟩),
  (33, ⟨(some 84), .pick (.tmp 79) (.tmp 83) (.c (.t (.b false))), none⟩),
  (34, ⟨(some 0), .mv (.tmp 84), none⟩)]
abbrev f9r5 : Pc := .reg f9o5 [0] [1]
abbrev f9b : Pc := (.seq f9r0 (.seq f9r1 (.seq f9r2 (.seq f9r3 (.seq f9r4 (.seq f9r5 .ret))))))
abbrev f9 : Pfn := ⟨0, 85, [.tmp 0], f9b⟩
def f9K : Array (List Nat) := #[[], [1, 2, 3], [1, 2, 3, 4, 5, 6, 7, 8], [1, 3, 5, 6, 7, 8, 11], [1, 3, 5, 6, 8, 11, 17], [0]]
def f9H : Array (List Nat) := #[[], [], [], [4, 9], [], [1]]
def f9A : Ann := ⟨fun r => f9K.getD r [], fun r => f9H.getD r [], fun r i => ([] : List (Nat × Nat)).contains (r, i)⟩
theorem f9C : compF Go.Proofs.Try.prog f9A 9 = some f9 := by kernel_rfl

/-- switchboard/port.Pack -/
abbrev f10o0 : List (Nat × Pop) := [
  (0, ⟨(some 6), .mv (.c (.t (.s []))), none⟩),
  (1, ⟨(some 7), .mv (.c (.t (.i .i64 0))), none⟩)]
abbrev f10r0 : Pc := .reg f10o0 [0, 1, 2] []
abbrev f10o1 : List (Nat × Pop) := [
  (0, ⟨(some 9), .mv (.tmp 0), none⟩)]
abbrev f10r1 : Pc := .reg f10o1 [0, 1, 2, 9] []
abbrev f10o2 : List (Nat × Pop) := [
  (0, ⟨(some 11), .bin .eql (.tmp 9) (.c (.t (.i .u8 65))), none⟩),
  (1, ⟨(some 10), .mv (.tmp 11), none⟩)]
abbrev f10r2 : Pc := .reg f10o2 [0, 1, 2, 9, 10] []
abbrev f10o3 : List (Nat × Pop) := [
  (0, ⟨(some 13), .bin .eql (.tmp 9) (.c (.t (.i .u8 68))), none⟩),
  (1, ⟨(some 12), .mv (.tmp 13), none⟩)]
abbrev f10r3 : Pc := .reg f10o3 [0, 1, 2, 12] []
abbrev f10o4 : List (Nat × Pop) := [
  (0, ⟨(some 14), .mv (.tmp 2), none⟩),
  (1, ⟨(some 15), .bin .neq (.tmp 14) (.c (.t (.s []))), none⟩)]
abbrev f10r4 : Pc := .reg f10o4 [0, 1, 2, 15] []
abbrev f10o5 : List (Nat × Pop) := [
  (0, ⟨(some 6), .mv (.c (.t (.s []))), none⟩),
  (1, ⟨(some 7), .mv (.c (.t (.i .i64 1))), none⟩)]
abbrev f10r5 : Pc := .reg f10o5 [6, 7] []
abbrev f10o6 : List (Nat × Pop) := [
  (0, ⟨(some 16), .mv (.tmp 1), none⟩),
  (1, ⟨(some 17), .bin .lss (.tmp 16) (.c (.t (.i .i64 0))), none⟩),
  (2, ⟨(some 18), .mv (.tmp 17), none⟩),
  (3, ⟨(some 19), .mv (.tmp 1), (some (18, false))⟩),
  (4, ⟨(some 20), .bin .gtr (.tmp 19) (.c (.t (.i .i64 2147483647))), (some (18, false))⟩),
  (5, ⟨(some 21), .pick (.tmp 18) (.c (.t (.b true))) (.tmp 20), none⟩)]
abbrev f10r6 : Pc := .reg f10o6 [0, 1, 2, 21] []
abbrev f10o7 : List (Nat × Pop) := [
  (0, ⟨(some 6), .mv (.c (.t (.s []))), none⟩),
  (1, ⟨(some 7), .mv (.c (.t (.i .i64 1))), none⟩)]
abbrev f10r7 : Pc := .reg f10o7 [6, 7] []
abbrev f10o8 : List (Nat × Pop) := [
  (0, ⟨(some 22), .mv (.tmp 0), none⟩),
  (1, ⟨(some 23), .bslF 1 [(.tmp 22)], none⟩),
  (2, ⟨(some 24), .cvbs (.tmp 23), none⟩),
  (3, ⟨(some 25), .mv (.tmp 1), none⟩),
  (4, ⟨(some 26), .callq 25 [(.tmp 25)], none⟩),
  (5, ⟨(some 27), .bin .add (.tmp 24) (.tmp 26), none⟩),
  (6, ⟨(some 28), .mv (.tmp 2), none⟩),
  (7, ⟨(some 29), .bin .add (.tmp 27) (.tmp 28), none⟩),
  (8, ⟨(some 8), .mv (.tmp 29), none⟩)]
abbrev f10r8 : Pc := .reg f10o8 [8] []
abbrev f10o9 : List (Nat × Pop) := [
  (0, ⟨(some 30), .mv (.tmp 8), none⟩),
  (1, ⟨(some 31), .mv (.tmp 8), none⟩),
  (2, ⟨(some 32), .call 26 [(.tmp 31)], none⟩),
  (3, ⟨(some 33), .call 25 [(.tmp 32)], none⟩),
  (4, ⟨(some 34), .bin .add (.tmp 30) (.tmp 33), none⟩),
  (5, ⟨(some 6), .mv (.tmp 34), none⟩),
  (6, ⟨(some 7), .mv (.c (.t (.i .i64 0))), none⟩)]
abbrev f10r9 : Pc := .reg f10o9 [6, 7] []
abbrev f10o10 : List (Nat × Pop) := [
  (0, ⟨(some 6), .mv (.c (.t (.s []))), none⟩),
  (1, ⟨(some 7), .mv (.c (.t (.i .i64 1))), none⟩)]
abbrev f10r10 : Pc := .reg f10o10 [6, 7] []
abbrev f10b : Pc := (.seq f10r0 (.seq (.seq f10r1 (.block 0 (.seq (.block 2 (.seq (.block 1 (.seq (.seq (.seq f10r2 (.cond (.tmp 10) (.exit 1) .skip)) (.seq f10r3 (.cond (.tmp 12) (.exit 2) .skip))) (.exit 0))) (.seq f10r4 (.cond (.tmp 15) (.seq f10r5 .ret) .skip)))) (.seq (.seq (.seq f10r6 (.cond (.tmp 21) (.seq f10r7 .ret) .skip)) (.seq f10r8 (.seq f10r9 .ret))) (.exit 0))))) (.seq f10r10 .ret)))
abbrev f10 : Pfn := ⟨3, 35, [.tmp 6, .tmp 7], f10b⟩
def f10K : Array (List Nat) := #[[0, 1, 2], [0, 1, 2, 9], [0, 1, 2, 9, 10], [0, 1, 2, 12], [0, 1, 2, 15], [6, 7], [0, 1, 2, 21], [6, 7], [8], [6, 7], [6, 7]]
def f10H : Array (List Nat) := #[[], [], [], [], [], [], [], [], [], [], []]
def f10A : Ann := ⟨fun r => f10K.getD r [], fun r => f10H.getD r [], fun r i => ([(8, 1001)] : List (Nat × Nat)).contains (r, i)⟩
theorem f10C : compF Go.Proofs.Try.prog f10A 10 = some f10 := by kernel_rfl

/-- switchboard/switchboardref23.Pack -/
abbrev f11o0 : List (Nat × Pop) := [
  (0, ⟨(some 6), .mv (.c (.t (.s []))), none⟩),
  (1, ⟨(some 7), .mv (.c (.t (.b false))), none⟩)]
abbrev f11r0 : Pc := .reg f11o0 [0, 1, 2] []
abbrev f11o1 : List (Nat × Pop) := [
  (0, ⟨(some 9), .mv (.tmp 0), none⟩),
  (1, ⟨(some 10), .bin .neq (.tmp 9) (.c (.t (.i .u8 68))), none⟩),
  (2, ⟨(some 11), .mv (.tmp 10), none⟩),
  (3, ⟨(some 12), .mv (.tmp 0), (some (11, true))⟩),
  (4, ⟨(some 13), .bin .neq (.tmp 12) (.c (.t (.i .u8 65))), (some (11, true))⟩),
  (5, ⟨(some 14), .pick (.tmp 11) (.tmp 13) (.c (.t (.b false))), none⟩),
  (6, ⟨(some 15), .mv (.tmp 14), none⟩),
  (7, ⟨(some 16), .mv (.tmp 1), (some (15, false))⟩),
  (8, ⟨(some 17), .bin .lss (.tmp 16) (.c (.t (.i .i64 0))), (some (15, false))⟩),
  (9, ⟨(some 18), .pick (.tmp 15) (.c (.t (.b true))) (.tmp 17), none⟩),
  (10, ⟨(some 19), .mv (.tmp 18), none⟩),
  (11, ⟨(some 20), .mv (.tmp 1), (some (19, false))⟩),
  (12, ⟨(some 21), .bin .gtr (.tmp 20) (.c (.t (.i .i64 2147483647))), (some (19, false))⟩),
  (13, ⟨(some 22), .pick (.tmp 19) (.c (.t (.b true))) (.tmp 21), none⟩),
  (14, ⟨(some 23), .mv (.tmp 22), none⟩),
  (15, ⟨(some 24), .mv (.tmp 0), (some (23, false))⟩),
  (16, ⟨(some 25), .bin .eql (.tmp 24) (.c (.t (.i .u8 65))), (some (23, false))⟩),
  (17, ⟨(some 26), .mv (.tmp 25), (some (23, false))⟩),
  (18, ⟨(some 27), .mv (.tmp 2), (some (26, true))⟩),
  (19, ⟨(some 28), .lenS (.tmp 27), (some (26, true))⟩),
  (20, ⟨(some 29), .bin .gtr (.tmp 28) (.c (.t (.i .i64 0))), (some (26, true))⟩),
  (21, ⟨(some 30), .pick (.tmp 26) (.tmp 29) (.c (.t (.b false))), (some (23, false))⟩),
  (22, ⟨(some 31), .pick (.tmp 23) (.c (.t (.b true))) (.tmp 30), none⟩)]
abbrev f11r1 : Pc := .reg f11o1 [0, 1, 2, 31] []
abbrev f11o2 : List (Nat × Pop) := [
  (0, ⟨(some 6), .mv (.c (.t (.s []))), none⟩),
  (1, ⟨(some 7), .mv (.c (.t (.b false))), none⟩)]
abbrev f11r2 : Pc := .reg f11o2 [6, 7] []
abbrev f11o3 : List (Nat × Pop) := [
  (0, ⟨(some 32), .mv (.tmp 0), none⟩),
  (1, ⟨(some 33), .bslF 1 [(.tmp 32)], none⟩),
  (2, ⟨(some 34), .cvbs (.tmp 33), none⟩),
  (3, ⟨(some 35), .mv (.tmp 1), none⟩),
  (4, ⟨(some 36), .callq 27 [(.tmp 35)], none⟩),
  (5, ⟨(some 37), .bin .add (.tmp 34) (.tmp 36), none⟩),
  (6, ⟨(some 38), .mv (.tmp 2), none⟩),
  (7, ⟨(some 39), .bin .add (.tmp 37) (.tmp 38), none⟩),
  (8, ⟨(some 8), .mv (.tmp 39), none⟩)]
abbrev f11r3 : Pc := .reg f11o3 [8] []
abbrev f11o4 : List (Nat × Pop) := [
  (0, ⟨(some 40), .mv (.tmp 8), none⟩),
  (1, ⟨(some 41), .mv (.tmp 8), none⟩),
  (2, ⟨(some 42), .call 28 [(.tmp 41)], none⟩),
  (3, ⟨(some 43), .call 27 [(.tmp 42)], none⟩),
  (4, ⟨(some 44), .bin .add (.tmp 40) (.tmp 43), none⟩),
  (5, ⟨(some 6), .mv (.tmp 44), none⟩),
  (6, ⟨(some 7), .mv (.c (.t (.b true))), none⟩)]
abbrev f11r4 : Pc := .reg f11o4 [6, 7] []
abbrev f11b : Pc := (.seq f11r0 (.seq (.seq f11r1 (.cond (.tmp 31) (.seq f11r2 .ret) .skip)) (.seq f11r3 (.seq f11r4 .ret))))
abbrev f11 : Pfn := ⟨3, 45, [.tmp 6, .tmp 7], f11b⟩
def f11K : Array (List Nat) := #[[0, 1, 2], [0, 1, 2, 31], [6, 7], [8], [6, 7]]
def f11H : Array (List Nat) := #[[], [], [], [], []]
def f11A : Ann := ⟨fun r => f11K.getD r [], fun r => f11H.getD r [], fun r i => ([(3, 1001)] : List (Nat × Nat)).contains (r, i)⟩
theorem f11C : compF Go.Proofs.Try.prog f11A 11 = some f11 := by kernel_rfl

/-- switchboard/port.Unpack -/
abbrev f12o0 : List (Nat × Pop) := [
  (0, ⟨(some 2), .mv (.c (.t (.i .u8 0))), none⟩),
  (1, ⟨(some 3), .mv (.c (.t (.i .i64 0))), none⟩),
  (2, ⟨(some 4), .mv (.c (.t (.s []))), none⟩),
  (3, ⟨(some 5), .mv (.c (.t (.i .i64 0))), none⟩)]
abbrev f12r0 : Pc := .reg f12o0 [0] []
abbrev f12o1 : List (Nat × Pop) := [
  (0, ⟨(some 10), .mv (.tmp 0), none⟩),
  (1, ⟨(some 11), .lenS (.tmp 10), none⟩),
  (2, ⟨(some 12), .bin .lss (.tmp 11) (.c (.t (.i .i64 9))), none⟩)]
abbrev f12r1 : Pc := .reg f12o1 [0, 12] []
abbrev f12o2 : List (Nat × Pop) := [
  (0, ⟨(some 2), .mv (.c (.t (.i .u8 0))), none⟩),
  (1, ⟨(some 3), .mv (.c (.t (.i .i64 0))), none⟩),
  (2, ⟨(some 4), .mv (.c (.t (.s []))), none⟩),
  (3, ⟨(some 5), .mv (.c (.t (.i .i64 2))), none⟩)]
abbrev f12r2 : Pc := .reg f12o2 [2, 3, 4, 5] []
abbrev f12o3 : List (Nat × Pop) := [
  (0, ⟨(some 13), .mv (.tmp 0), none⟩),
  (1, ⟨(some 14), .lenS (.tmp 13), none⟩),
  (2, ⟨(some 15), .bin .sub (.tmp 14) (.c (.t (.i .i64 4))), none⟩),
  (3, ⟨(some 6), .mv (.tmp 15), none⟩)]
abbrev f12r3 : Pc := .reg f12o3 [0, 6] []
abbrev f12o4 : List (Nat × Pop) := [
  (0, ⟨(some 16), .mv (.tmp 0), none⟩),
  (1, ⟨(some 17), .mv (.tmp 6), none⟩),
  (2, ⟨(some 18), .slS (.tmp 16) (some (.tmp 17)) none, none⟩),
  (3, ⟨(some 19), .mv (.tmp 0), none⟩),
  (4, ⟨(some 20), .mv (.tmp 6), none⟩),
  (5, ⟨(some 21), .slS (.tmp 19) none (some (.tmp 20)), none⟩),
  (6, ⟨(some 22), .callq 26 [(.tmp 21)], none⟩),
  (7, ⟨(some 23), .callq 25 [(.tmp 22)], none⟩),
  (8, ⟨(some 24), .bin .neq (.tmp 18) (.tmp 23), none⟩)]
abbrev f12r4 : Pc := .reg f12o4 [0, 6, 24] []
abbrev f12o5 : List (Nat × Pop) := [
  (0, ⟨(some 2), .mv (.c (.t (.i .u8 0))), none⟩),
  (1, ⟨(some 3), .mv (.c (.t (.i .i64 0))), none⟩),
  (2, ⟨(some 4), .mv (.c (.t (.s []))), none⟩),
  (3, ⟨(some 5), .mv (.c (.t (.i .i64 9))), none⟩)]
abbrev f12r5 : Pc := .reg f12o5 [2, 3, 4, 5] []
abbrev f12o6 : List (Nat × Pop) := [
  (0, ⟨(some 25), .mv (.tmp 0), none⟩),
  (1, ⟨(some 26), .ixs (.tmp 25) (.c (.t (.i .i64 1))), none⟩),
  (2, ⟨(some 27), .cvi .i64 (.tmp 26), none⟩),
  (3, ⟨(some 28), .mv (.tmp 0), none⟩),
  (4, ⟨(some 29), .ixs (.tmp 28) (.c (.t (.i .i64 2))), none⟩),
  (5, ⟨(some 30), .cvi .i64 (.tmp 29), none⟩),
  (6, ⟨(some 31), .bin .shl (.tmp 30) (.c (.t (.i .u64 8))), none⟩),
  (7, ⟨(some 32), .bin .or (.tmp 27) (.tmp 31), none⟩),
  (8, ⟨(some 33), .mv (.tmp 0), none⟩),
  (9, ⟨(some 34), .ixs (.tmp 33) (.c (.t (.i .i64 3))), none⟩),
  (10, ⟨(some 35), .cvi .i64 (.tmp 34), none⟩),
  (11, ⟨(some 36), .bin .shl (.tmp 35) (.c (.t (.i .u64 16))), none⟩),
  (12, ⟨(some 37), .bin .or (.tmp 32) (.tmp 36), none⟩),
  (13, ⟨(some 38), .mv (.tmp 0), none⟩),
  (14, ⟨(some 39), .ixs (.tmp 38) (.c (.t (.i .i64 4))), none⟩),
  (15, ⟨(some 40), .cvi .i64 (.tmp 39), none⟩),
  (16, ⟨(some 41), .bin .shl (.tmp 40) (.c (.t (.i .u64 24))), none⟩),
  (17, ⟨(some 42), .bin .or (.tmp 37) (.tmp 41), none⟩),
  (18, ⟨(some 7), .mv (.tmp 42), none⟩)]
abbrev f12r6 : Pc := .reg f12o6 [0, 6, 7] []
abbrev f12o7 : List (Nat × Pop) := [
  (0, ⟨(some 44), .mv (.tmp 0), none⟩),
  (1, ⟨(some 45), .ixs (.tmp 44) (.c (.t (.i .i64 0))), none⟩),
  (2, ⟨(some 46), .mv (.tmp 7), none⟩),
  (3, ⟨(some 47), .mv (.tmp 0), none⟩),
  (4, ⟨(some 48), .mv (.tmp 6), none⟩),
  (5, ⟨(some 49), .slS (.tmp 47) (some (.c (.t (.i .i64 5)))) (some (.tmp 48)), none⟩),
  (6, ⟨(some 50), .callq 10 [(.tmp 45), (.tmp 46), (.tmp 49)], none⟩),
  (7, ⟨(some 43), .mv (.tmp 50), none⟩),
  (8, ⟨(some 51), .ext 0 (.tmp 43), none⟩),
  (9, ⟨(some 52), .ext 1 (.tmp 43), none⟩),
  (10, ⟨(some 8), .mv (.tmp 51), none⟩),
  (11, ⟨(some 9), .mv (.tmp 52), none⟩)]
abbrev f12r7 : Pc := .reg f12o7 [0, 6, 7, 8, 9] []
abbrev f12o8 : List (Nat × Pop) := [
  (0, ⟨(some 53), .mv (.tmp 9), none⟩),
  (1, ⟨(some 54), .bin .neq (.tmp 53) (.c (.t (.i .i64 0))), none⟩),
  (2, ⟨(some 55), .mv (.tmp 54), none⟩),
  (3, ⟨(some 56), .mv (.tmp 8), (some (55, false))⟩),
  (4, ⟨(some 57), .mv (.tmp 0), (some (55, false))⟩),
  (5, ⟨(some 58), .bin .neq (.tmp 56) (.tmp 57), (some (55, false))⟩),
  (6, ⟨(some 59), .pick (.tmp 55) (.c (.t (.b true))) (.tmp 58), none⟩)]
abbrev f12r8 : Pc := .reg f12o8 [0, 6, 7, 59] []
abbrev f12o9 : List (Nat × Pop) := [
  (0, ⟨(some 2), .mv (.c (.t (.i .u8 0))), none⟩),
  (1, ⟨(some 3), .mv (.c (.t (.i .i64 0))), none⟩),
  (2, ⟨(some 4), .mv (.c (.t (.s []))), none⟩),
  (3, ⟨(some 5), .mv (.c (.t (.i .i64 2))), none⟩)]
abbrev f12r9 : Pc := .reg f12o9 [2, 3, 4, 5] []
abbrev f12o10 : List (Nat × Pop) := [
  (0, ⟨(some 60), .mv (.tmp 0), none⟩),
  (1, ⟨(some 61), .ixs (.tmp 60) (.c (.t (.i .i64 0))), none⟩),
  (2, ⟨(some 62), .mv (.tmp 7), none⟩),
  (3, ⟨(some 63), .mv (.tmp 0), none⟩),
  (4, ⟨(some 64), .mv (.tmp 6), none⟩),
  (5, ⟨(some 65), .slS (.tmp 63) (some (.c (.t (.i .i64 5)))) (some (.tmp 64)), none⟩),
  (6, ⟨(some 2), .mv (.tmp 61), none⟩),
  (7, ⟨(some 3), .mv (.tmp 62), none⟩),
  (8, ⟨(some 4), .mv (.tmp 65), none⟩),
  (9, ⟨(some 5), .mv (.c (.t (.i .i64 0))), none⟩)]
abbrev f12r10 : Pc := .reg f12o10 [2, 3, 4, 5] []
abbrev f12b : Pc := (.seq f12r0 (.seq (.seq f12r1 (.cond (.tmp 12) (.seq f12r2 .ret) .skip)) (.seq f12r3 (.seq (.seq f12r4 (.cond (.tmp 24) (.seq f12r5 .ret) .skip)) (.seq f12r6 (.seq (.seq f12r7 (.seq f12r8 (.cond (.tmp 59) (.seq f12r9 .ret) .skip))) (.seq f12r10 .ret)))))))
abbrev f12 : Pfn := ⟨1, 66, [.tmp 2, .tmp 3, .tmp 4, .tmp 5], f12b⟩
def f12K : Array (List Nat) := #[[0], [0, 12], [2, 3, 4, 5], [0, 6], [0, 6, 24], [2, 3, 4, 5], [0, 6, 7], [0, 6, 7, 8, 9], [0, 6, 7, 59], [2, 3, 4, 5], [2, 3, 4, 5]]
def f12H : Array (List Nat) := #[[], [], [], [], [], [], [], [], [], [], []]
def f12A : Ann := ⟨fun r => f12K.getD r [], fun r => f12H.getD r [], fun r i => ([] : List (Nat × Nat)).contains (r, i)⟩
theorem f12C : compF Go.Proofs.Try.prog f12A 12 = some f12 := by kernel_rfl

/-- switchboard/switchboardref23.Unpack -/
abbrev f13o0 : List (Nat × Pop) := [
  (0, ⟨(some 2), .mv (.c (.t (.i .u8 0))), none⟩),
  (1, ⟨(some 3), .mv (.c (.t (.i .i64 0))), none⟩),
  (2, ⟨(some 4), .mv (.c (.t (.s []))), none⟩),
  (3, ⟨(some 5), .mv (.c (.t (.i .i64 0))), none⟩)]
abbrev f13r0 : Pc := .reg f13o0 [0] []
abbrev f13o1 : List (Nat × Pop) := [
  (0, ⟨(some 10), .mv (.tmp 0), none⟩),
  (1, ⟨(some 11), .lenS (.tmp 10), none⟩),
  (2, ⟨(some 12), .bin .lss (.tmp 11) (.c (.t (.i .i64 9))), none⟩)]
abbrev f13r1 : Pc := .reg f13o1 [0, 12] []
abbrev f13o2 : List (Nat × Pop) := [
  (0, ⟨(some 2), .mv (.c (.t (.i .u8 0))), none⟩),
  (1, ⟨(some 3), .mv (.c (.t (.i .i64 0))), none⟩),
  (2, ⟨(some 4), .mv (.c (.t (.s []))), none⟩),
  (3, ⟨(some 5), .mv (.c (.t (.i .i64 2))), none⟩)]
abbrev f13r2 : Pc := .reg f13o2 [2, 3, 4, 5] []
abbrev f13o3 : List (Nat × Pop) := [
  (0, ⟨(some 13), .mv (.tmp 0), none⟩),
  (1, ⟨(some 14), .mv (.tmp 0), none⟩),
  (2, ⟨(some 15), .lenS (.tmp 14), none⟩),
  (3, ⟨(some 16), .bin .sub (.tmp 15) (.c (.t (.i .i64 4))), none⟩),
  (4, ⟨(some 17), .slS (.tmp 13) none (some (.tmp 16)), none⟩),
  (5, ⟨(some 6), .mv (.tmp 17), none⟩)]
abbrev f13r3 : Pc := .reg f13o3 [0, 6] []
abbrev f13o4 : List (Nat × Pop) := [
  (0, ⟨(some 18), .mv (.tmp 6), none⟩),
  (1, ⟨(some 19), .callq 28 [(.tmp 18)], none⟩),
  (2, ⟨(some 20), .callq 27 [(.tmp 19)], none⟩),
  (3, ⟨(some 21), .mv (.tmp 0), none⟩),
  (4, ⟨(some 22), .mv (.tmp 0), none⟩),
  (5, ⟨(some 23), .lenS (.tmp 22), none⟩),
  (6, ⟨(some 24), .bin .sub (.tmp 23) (.c (.t (.i .i64 4))), none⟩),
  (7, ⟨(some 25), .slS (.tmp 21) (some (.tmp 24)) none, none⟩),
  (8, ⟨(some 26), .bin .neq (.tmp 20) (.tmp 25), none⟩)]
abbrev f13r4 : Pc := .reg f13o4 [0, 6, 26] []
abbrev f13o5 : List (Nat × Pop) := [
  (0, ⟨(some 2), .mv (.c (.t (.i .u8 0))), none⟩),
  (1, ⟨(some 3), .mv (.c (.t (.i .i64 0))), none⟩),
  (2, ⟨(some 4), .mv (.c (.t (.s []))), none⟩),
  (3, ⟨(some 5), .mv (.c (.t (.i .i64 9))), none⟩)]
abbrev f13r5 : Pc := .reg f13o5 [2, 3, 4, 5] []
abbrev f13o6 : List (Nat × Pop) := [
  (0, ⟨(some 27), .mv (.tmp 0), none⟩),
  (1, ⟨(some 28), .ixs (.tmp 27) (.c (.t (.i .i64 1))), none⟩),
  (2, ⟨(some 29), .cvi .i64 (.tmp 28), none⟩),
  (3, ⟨(some 30), .mv (.tmp 0), none⟩),
  (4, ⟨(some 31), .ixs (.tmp 30) (.c (.t (.i .i64 2))), none⟩),
  (5, ⟨(some 32), .cvi .i64 (.tmp 31), none⟩),
  (6, ⟨(some 33), .bin .mul (.c (.t (.i .i64 256))) (.tmp 32), none⟩),
  (7, ⟨(some 34), .bin .add (.tmp 29) (.tmp 33), none⟩),
  (8, ⟨(some 35), .mv (.tmp 0), none⟩),
  (9, ⟨(some 36), .ixs (.tmp 35) (.c (.t (.i .i64 3))), none⟩),
  (10, ⟨(some 37), .cvi .i64 (.tmp 36), none⟩),
  (11, ⟨(some 38), .bin .mul (.c (.t (.i .i64 65536))) (.tmp 37), none⟩),
  (12, ⟨(some 39), .bin .add (.tmp 34) (.tmp 38), none⟩),
  (13, ⟨(some 40), .mv (.tmp 0), none⟩),
  (14, ⟨(some 41), .ixs (.tmp 40) (.c (.t (.i .i64 4))), none⟩),
  (15, ⟨(some 42), .cvi .i64 (.tmp 41), none⟩),
  (16, ⟨(some 43), .bin .mul (.c (.t (.i .i64 16777216))) (.tmp 42), none⟩),
  (17, ⟨(some 44), .bin .add (.tmp 39) (.tmp 43), none⟩),
  (18, ⟨(some 7), .mv (.tmp 44), none⟩)]
abbrev f13r6 : Pc := .reg f13o6 [0, 6, 7] []
abbrev f13o7 : List (Nat × Pop) := [
  (0, ⟨(some 46), .mv (.tmp 0), none⟩),
  (1, ⟨(some 47), .ixs (.tmp 46) (.c (.t (.i .i64 0))), none⟩),
  (2, ⟨(some 48), .mv (.tmp 7), none⟩),
  (3, ⟨(some 49), .mv (.tmp 6), none⟩),
  (4, ⟨(some 50), .slS (.tmp 49) (some (.c (.t (.i .i64 5)))) none, none⟩),
  (5, ⟨(some 51), .callq 11 [(.tmp 47), (.tmp 48), (.tmp 50)], none⟩),
  (6, ⟨(some 45), .mv (.tmp 51), none⟩),
  (7, ⟨(some 52), .ext 0 (.tmp 45), none⟩),
  (8, ⟨(some 53), .ext 1 (.tmp 45), none⟩),
  (9, ⟨(some 8), .mv (.tmp 52), none⟩),
  (10, ⟨(some 9), .mv (.tmp 53), none⟩)]
abbrev f13r7 : Pc := .reg f13o7 [0, 6, 7, 9] []
abbrev f13o8 : List (Nat × Pop) := [
  (0, ⟨(some 54), .mv (.tmp 9), none⟩),
  (1, ⟨(some 55), .un .not (.tmp 54), none⟩)]
abbrev f13r8 : Pc := .reg f13o8 [0, 6, 7, 55] []
abbrev f13o9 : List (Nat × Pop) := [
  (0, ⟨(some 2), .mv (.c (.t (.i .u8 0))), none⟩),
  (1, ⟨(some 3), .mv (.c (.t (.i .i64 0))), none⟩),
  (2, ⟨(some 4), .mv (.c (.t (.s []))), none⟩),
  (3, ⟨(some 5), .mv (.c (.t (.i .i64 2))), none⟩)]
abbrev f13r9 : Pc := .reg f13o9 [2, 3, 4, 5] []
abbrev f13o10 : List (Nat × Pop) := [
  (0, ⟨(some 56), .mv (.tmp 0), none⟩),
  (1, ⟨(some 57), .ixs (.tmp 56) (.c (.t (.i .i64 0))), none⟩),
  (2, ⟨(some 58), .mv (.tmp 7), none⟩),
  (3, ⟨(some 59), .mv (.tmp 6), none⟩),
  (4, ⟨(some 60), .slS (.tmp 59) (some (.c (.t (.i .i64 5)))) none, none⟩),
  (5, ⟨(some 2), .mv (.tmp 57), none⟩),
  (6, ⟨(some 3), .mv (.tmp 58), none⟩),
  (7, ⟨(some 4), .mv (.tmp 60), none⟩),
  (8, ⟨(some 5), .mv (.c (.t (.i .i64 0))), none⟩)]
abbrev f13r10 : Pc := .reg f13o10 [2, 3, 4, 5] []
abbrev f13b : Pc := (.seq f13r0 (.seq (.seq f13r1 (.cond (.tmp 12) (.seq f13r2 .ret) .skip)) (.seq f13r3 (.seq (.seq f13r4 (.cond (.tmp 26) (.seq f13r5 .ret) .skip)) (.seq f13r6 (.seq f13r7 (.seq (.seq f13r8 (.cond (.tmp 55) (.seq f13r9 .ret) .skip)) (.seq f13r10 .ret))))))))
abbrev f13 : Pfn := ⟨1, 61, [.tmp 2, .tmp 3, .tmp 4, .tmp 5], f13b⟩
def f13K : Array (List Nat) := #[[0], [0, 12], [2, 3, 4, 5], [0, 6], [0, 6, 26], [2, 3, 4, 5], [0, 6, 7], [0, 6, 7, 9], [0, 6, 7, 55], [2, 3, 4, 5], [2, 3, 4, 5]]
def f13H : Array (List Nat) := #[[], [], [], [], [], [], [], [], [], [], []]
def f13A : Ann := ⟨fun r => f13K.getD r [], fun r => f13H.getD r [], fun r i => ([] : List (Nat × Nat)).contains (r, i)⟩
theorem f13C : compF Go.Proofs.Try.prog f13A 13 = some f13 := by kernel_rfl

/-- switchboard/switchboardlaw23.ref -/
abbrev f14o0 : List (Nat × Pop) := [
  (0, ⟨(some 1), .box 40 4 (.tmp 0), none⟩),
  (1, ⟨(some 2), .alloc 46 [(.t (.i .i64 0)), .nl, (.t (.i .i64 0)), .nl], none⟩),
  (2, ⟨(some 3), .mv (.c (.t (.b false))), none⟩)]
abbrev f14r0 : Pc := .reg f14o0 [1, 2] []
abbrev f14o1 : List (Nat × Pop) := [
  (0, ⟨(some 7), .fad 0 (.tmp 1), none⟩),
  (1, ⟨(some 8), .fad 0 (.tmp 7), none⟩),
  (2, ⟨(some 9), .load false 1 (.tmp 8), none⟩),
  (3, ⟨(some 10), .build [(.t (.i .i64 0)), .nl] [(0, 1, (.tmp 9))], none⟩),
  (4, ⟨(some 11), .fad 2 (.tmp 1), none⟩),
  (5, ⟨(some 12), .load true 2 (.tmp 11), none⟩),
  (6, ⟨(some 13), .build [(.t (.i .i64 0)), .nl, (.t (.i .i64 0)), .nl] [(0, 2, (.tmp 10)), (2, 2, (.tmp 12))], none⟩),
  (7, ⟨(some 4), .alloc 46 [(.t (.i .i64 0)), .nl, (.t (.i .i64 0)), .nl], none⟩),
  (8, ⟨none, .store 4 (.tmp 4) (.tmp 13), none⟩)]
abbrev f14r1 : Pc := .reg f14o1 [1, 2, 4] []
abbrev f14o2 : List (Nat × Pop) := [
  (0, ⟨(some 14), .fad 0 (.tmp 1), none⟩),
  (1, ⟨(some 15), .fad 1 (.tmp 14), none⟩),
  (2, ⟨(some 16), .load false 1 (.tmp 15), none⟩),
  (3, ⟨(some 17), .lenL (.tmp 16), none⟩),
  (4, ⟨(some 18), .bin .gtr (.tmp 17) (.c (.t (.i .i64 100))), none⟩),
  (5, ⟨(some 19), .mv (.tmp 18), none⟩),
  (6, ⟨(some 20), .fad 2 (.tmp 1), (some (19, false))⟩),
  (7, ⟨(some 21), .fad 1 (.tmp 20), (some (19, false))⟩),
  (8, ⟨(some 22), .load false 1 (.tmp 21), (some (19, false))⟩),
  (9, ⟨(some 23), .lenL (.tmp 22), (some (19, false))⟩),
  (10, ⟨(some 24), .bin .gtr (.tmp 23) (.c (.t (.i .i64 100))), (some (19, false))⟩),
  (11, ⟨(some 25), .pick (.tmp 19) (.c (.t (.b true))) (.tmp 24), none⟩)]
abbrev f14r2 : Pc := .reg f14o2 [1, 2, 4, 25] []
abbrev f14o3 : List (Nat × Pop) := [
  (0, ⟨(some 26), .load true 4 (.tmp 4), none⟩),
  (1, ⟨none, .store 4 (.tmp 2) (.tmp 26), none⟩),
  (2, ⟨(some 3), .mv (.c (.t (.b false))), none⟩)]
abbrev f14r3 : Pc := .reg f14o3 [2, 3] [1, 4]
abbrev f14o4 : List (Nat × Pop) := [
  (0, ⟨(some 27), .fad 0 (.tmp 1), none⟩),
  (1, ⟨(some 28), .fad 1 (.tmp 27), none⟩),
  (2, ⟨(some 29), .load false 1 (.tmp 28), none⟩),
  (3, ⟨(some 30), .lenL (.tmp 29), none⟩),
  (4, ⟨(some 31), .mv (.c (.t (.i .i64 0))), none⟩)]
abbrev f14r4 : Pc := .reg f14o4 [2, 4, 29, 30, 31] [1]
abbrev f14o5 : List (Nat × Pop) := [
  (0, ⟨(some 32), .bin .lss (.tmp 31) (.tmp 30), none⟩)]
abbrev f14r5 : Pc := .reg f14o5 [2, 4, 29, 30, 31, 32] []
abbrev f14o6 : List (Nat × Pop) := [
  (0, ⟨(some 33), .ixS 2 (.tmp 29) (.tmp 31), none⟩),
  (1, ⟨(some 34), .load true 2 (.tmp 33), none⟩),
  (2, ⟨(some 6), .alloc 80 [(.t (.i .i64 0)), (.t (.s []))], none⟩),
  (3, ⟨none, .store 2 (.tmp 6) (.tmp 34), none⟩)]
abbrev f14r6 : Pc := .reg f14o6 [2, 4, 6, 29, 30, 31] []
abbrev f14o7 : List (Nat × Pop) := [
  (0, ⟨(some 35), .fad 1 (.tmp 6), none⟩),
  (1, ⟨(some 36), .load false 1 (.tmp 35), none⟩),
  (2, ⟨(some 37), .lenS (.tmp 36), none⟩),
  (3, ⟨(some 38), .bin .gtr (.tmp 37) (.c (.t (.i .i64 100))), none⟩)]
abbrev f14r7 : Pc := .reg f14o7 [2, 4, 6, 29, 30, 31, 38] []
abbrev f14o8 : List (Nat × Pop) := [
  (0, ⟨(some 39), .load true 4 (.tmp 4), none⟩),
  (1, ⟨none, .store 4 (.tmp 2) (.tmp 39), none⟩),
  (2, ⟨(some 3), .mv (.c (.t (.b false))), none⟩)]
abbrev f14r8 : Pc := .reg f14o8 [2, 3] [4, 6]
abbrev f14o9 : List (Nat × Pop) := [
  (0, ⟨(some 40), .fad 0 (.tmp 4), none⟩),
  (1, ⟨(some 41), .fad 1 (.tmp 40), none⟩),
  (2, ⟨(some 42), .load false 1 (.tmp 41), none⟩),
  (3, ⟨(some 43), .load true 2 (.tmp 6), none⟩),
  (4, ⟨(some 44), .bslT 2 [(.tmp 43)], none⟩),
  (5, ⟨(some 45), .app 81 2 24 (.tmp 42) (.tmp 44), none⟩),
  (6, ⟨(some 46), .fad 0 (.tmp 4), none⟩),
  (7, ⟨(some 47), .fad 1 (.tmp 46), none⟩),
  (8, ⟨none, .store 1 (.tmp 47) (.tmp 45), none⟩)]
abbrev f14r9 : Pc := .reg f14o9 [2, 4, 29, 30, 31] [6]
abbrev f14o10 : List (Nat × Pop) := [
  (0, ⟨(some 48), .bin .add (.tmp 31) (.c (.t (.i .i64 1))), none⟩),
  (1, ⟨(some 31), .mv (.tmp 48), none⟩)]
abbrev f14r10 : Pc := .reg f14o10 [2, 4, 29, 30, 31] []
def f14l0 : Pc := (.seq f14r5 (.seq (.cond (.tmp 32) .skip (.exit 0)) (.seq (.block 1 (.seq f14r6 (.seq (.seq f14r7 (.cond (.tmp 38) (.seq f14r8 .ret) .skip)) f14r9))) f14r10)))
theorem f14l0e (C : Cfg) (s : St) : evL C f14l0 s = evL C (.seq f14r5 (.seq (.cond (.tmp 32) .skip (.exit 0)) (.seq (.block 1 (.seq f14r6 (.seq (.seq f14r7 (.cond (.tmp 38) (.seq f14r8 .ret) .skip)) f14r9))) f14r10))) s := rfl
abbrev f14o11 : List (Nat × Pop) := [
  (0, ⟨(some 49), .load true 4 (.tmp 4), none⟩),
  (1, ⟨none, .store 4 (.tmp 2) (.tmp 49), none⟩),
  (2, ⟨(some 3), .mv (.c (.t (.b true))), none⟩)]
abbrev f14r11 : Pc := .reg f14o11 [2, 3] [4]
abbrev f14b : Pc := (.seq f14r0 (.seq f14r1 (.seq (.seq f14r2 (.cond (.tmp 25) (.seq f14r3 .ret) .skip)) (.seq (.seq f14r4 (.block 0 (.loop f14l0))) (.seq f14r11 .ret)))))
abbrev f14 : Pfn := ⟨1, 50, [.cell 2 true 4, .tmp 3], f14b⟩
def f14K : Array (List Nat) := #[[1, 2], [1, 2, 4], [1, 2, 4, 25], [2, 3], [2, 4, 29, 30, 31], [2, 4, 29, 30, 31, 32], [2, 4, 6, 29, 30, 31], [2, 4, 6, 29, 30, 31, 38], [2, 3], [2, 4, 29, 30, 31], [2, 4, 29, 30, 31], [2, 3]]
def f14H : Array (List Nat) := #[[], [], [], [1, 4], [1], [], [], [], [4, 6], [6], [], [4]]
def f14A : Ann := ⟨fun r => f14K.getD r [], fun r => f14H.getD r [], fun r i => ([] : List (Nat × Nat)).contains (r, i)⟩
theorem f14C : compF Go.Proofs.Try.prog f14A 14 = some f14 := by kernel_rfl

/-- switchboard/port.Receive -/
abbrev f15o0 : List (Nat × Pop) := [
  (0, ⟨(some 2), .box 40 4 (.tmp 0), none⟩),
  (1, ⟨(some 4), .alloc 40 [(.t (.i .i64 0)), .nl, (.t (.i .i64 0)), .nl], none⟩),
  (2, ⟨(some 5), .mv (.c (.t (.s []))), none⟩),
  (3, ⟨(some 6), .mv (.c (.t (.b false))), none⟩),
  (4, ⟨(some 7), .mv (.c (.t (.s []))), none⟩),
  (5, ⟨(some 8), .mv (.c (.t (.i .i64 0))), none⟩)]
abbrev f15r0 : Pc := .reg f15o0 [1, 2, 4] []
abbrev f15o1 : List (Nat × Pop) := [
  (0, ⟨(some 18), .mv (.tmp 1), none⟩),
  (1, ⟨(some 19), .call 12 [(.tmp 18)], none⟩),
  (2, ⟨(some 17), .mv (.tmp 19), none⟩),
  (3, ⟨(some 20), .ext 0 (.tmp 17), none⟩),
  (4, ⟨(some 21), .ext 1 (.tmp 17), none⟩),
  (5, ⟨(some 22), .ext 2 (.tmp 17), none⟩),
  (6, ⟨(some 23), .ext 3 (.tmp 17), none⟩),
  (7, ⟨(some 9), .mv (.tmp 20), none⟩),
  (8, ⟨(some 10), .mv (.tmp 21), none⟩),
  (9, ⟨(some 11), .mv (.tmp 22), none⟩),
  (10, ⟨(some 12), .mv (.tmp 23), none⟩)]
abbrev f15r1 : Pc := .reg f15o1 [2, 4, 9, 10, 11, 12] []
abbrev f15o2 : List (Nat × Pop) := [
  (0, ⟨(some 24), .mv (.tmp 12), none⟩),
  (1, ⟨(some 25), .bin .neq (.tmp 24) (.c (.t (.i .i64 0))), none⟩)]
abbrev f15r2 : Pc := .reg f15o2 [2, 4, 9, 10, 11, 12, 25] []
abbrev f15o3 : List (Nat × Pop) := [
  (0, ⟨(some 26), .load true 4 (.tmp 2), none⟩),
  (1, ⟨(some 27), .mv (.tmp 12), none⟩),
  (2, ⟨none, .store 4 (.tmp 4) (.tmp 26), none⟩),
  (3, ⟨(some 5), .mv (.c (.t (.s []))), none⟩),
  (4, ⟨(some 6), .mv (.c (.t (.b false))), none⟩),
  (5, ⟨(some 7), .mv (.c (.t (.s []))), none⟩),
  (6, ⟨(some 8), .mv (.tmp 27), none⟩)]
abbrev f15r3 : Pc := .reg f15o3 [4, 5, 6, 7, 8] [2]
abbrev f15o4 : List (Nat × Pop) := [
  (0, ⟨(some 28), .mv (.tmp 9), none⟩),
  (1, ⟨(some 29), .bin .eql (.tmp 28) (.c (.t (.i .u8 65))), none⟩)]
abbrev f15r4 : Pc := .reg f15o4 [2, 4, 10, 11, 29] []
abbrev f15o5 : List (Nat × Pop) := [
  (0, ⟨(some 30), .fad 0 (.tmp 2), none⟩),
  (1, ⟨(some 31), .load true 2 (.tmp 30), none⟩),
  (2, ⟨(some 32), .mv (.tmp 10), none⟩),
  (3, ⟨(some 33), .call 24 [(.tmp 31), (.tmp 32)], none⟩),
  (4, ⟨(some 34), .fad 0 (.tmp 2), none⟩),
  (5, ⟨none, .store 2 (.tmp 34) (.tmp 33), none⟩)]
abbrev f15r5 : Pc := .reg f15o5 [2, 4] []
abbrev f15o6 : List (Nat × Pop) := [
  (0, ⟨(some 35), .load true 4 (.tmp 2), none⟩),
  (1, ⟨none, .store 4 (.tmp 4) (.tmp 35), none⟩),
  (2, ⟨(some 5), .mv (.c (.t (.s []))), none⟩),
  (3, ⟨(some 6), .mv (.c (.t (.b false))), none⟩),
  (4, ⟨(some 7), .mv (.c (.t (.s []))), none⟩),
  (5, ⟨(some 8), .mv (.c (.t (.i .i64 0))), none⟩)]
abbrev f15r6 : Pc := .reg f15o6 [4, 5, 6, 7, 8] [2]
abbrev f15o7 : List (Nat × Pop) := [
  (0, ⟨(some 37), .mv (.tmp 10), none⟩),
  (1, ⟨(some 38), .call 10 [(.c (.t (.i .u8 65))), (.tmp 37), (.c (.t (.s [])))], none⟩),
  (2, ⟨(some 36), .mv (.tmp 38), none⟩),
  (3, ⟨(some 39), .ext 0 (.tmp 36), none⟩),
  (4, ⟨(some 40), .ext 1 (.tmp 36), none⟩),
  (5, ⟨(some 13), .mv (.tmp 39), none⟩),
  (6, ⟨(some 14), .mv (.tmp 40), none⟩)]
abbrev f15r7 : Pc := .reg f15o7 [2, 4, 10, 11, 13] []
abbrev f15o8 : List (Nat × Pop) := [
  (0, ⟨(some 42), .fad 2 (.tmp 2), none⟩),
  (1, ⟨(some 43), .load true 2 (.tmp 42), none⟩),
  (2, ⟨(some 44), .mv (.tmp 10), none⟩),
  (3, ⟨(some 45), .call 29 [(.tmp 43), (.tmp 44)], none⟩),
  (4, ⟨(some 41), .mv (.tmp 45), none⟩),
  (5, ⟨(some 46), .ext 0 (.tmp 41), none⟩),
  (6, ⟨(some 47), .ext 1 (.tmp 41), none⟩),
  (7, ⟨(some 15), .alloc 38 [(.t (.i .i64 0)), .nl], none⟩),
  (8, ⟨none, .store 2 (.tmp 15) (.tmp 46), none⟩),
  (9, ⟨(some 16), .mv (.tmp 47), none⟩)]
abbrev f15r8 : Pc := .reg f15o8 [2, 4, 11, 13, 15, 16] []
abbrev f15o9 : List (Nat × Pop) := [
  (0, ⟨(some 48), .mv (.tmp 16), none⟩),
  (1, ⟨(some 49), .un .not (.tmp 48), none⟩)]
abbrev f15r9 : Pc := .reg f15o9 [2, 4, 11, 13, 15, 49] []
abbrev f15o10 : List (Nat × Pop) := [
  (0, ⟨(some 50), .load true 4 (.tmp 2), none⟩),
  (1, ⟨(some 51), .mv (.tmp 13), none⟩),
  (2, ⟨none, .store 4 (.tmp 4) (.tmp 50), none⟩),
  (3, ⟨(some 5), .mv (.c (.t (.s []))), none⟩),
  (4, ⟨(some 6), .mv (.c (.t (.b false))), none⟩),
  (5, ⟨(some 7), .mv (.tmp 51), none⟩),
  (6, ⟨(some 8), .mv (.c (.t (.i .i64 0))), none⟩)]
abbrev f15r10 : Pc := .reg f15o10 [4, 5, 6, 7, 8] [2, 15]
abbrev f15o11 : List (Nat × Pop) := [
  (0, ⟨(some 52), .load true 2 (.tmp 15), none⟩),
  (1, ⟨(some 53), .fad 2 (.tmp 2), none⟩),
  (2, ⟨none, .store 2 (.tmp 53) (.tmp 52), none⟩)]
abbrev f15r11 : Pc := .reg f15o11 [2, 4, 11, 13] [15]
abbrev f15o12 : List (Nat × Pop) := [
  (0, ⟨(some 54), .load true 4 (.tmp 2), none⟩),
  (1, ⟨(some 55), .mv (.tmp 11), none⟩),
  (2, ⟨(some 56), .mv (.tmp 13), none⟩),
  (3, ⟨none, .store 4 (.tmp 4) (.tmp 54), none⟩),
  (4, ⟨(some 5), .mv (.tmp 55), none⟩),
  (5, ⟨(some 6), .mv (.c (.t (.b true))), none⟩),
  (6, ⟨(some 7), .mv (.tmp 56), none⟩),
  (7, ⟨(some 8), .mv (.c (.t (.i .i64 0))), none⟩)]
abbrev f15r12 : Pc := .reg f15o12 [4, 5, 6, 7, 8] [2]
abbrev f15b : Pc := (.seq f15r0 (.seq f15r1 (.seq (.seq f15r2 (.cond (.tmp 25) (.seq f15r3 .ret) .skip)) (.seq (.seq f15r4 (.cond (.tmp 29) (.seq f15r5 (.seq f15r6 .ret)) .skip)) (.seq f15r7 (.seq f15r8 (.seq (.seq f15r9 (.cond (.tmp 49) (.seq f15r10 .ret) .skip)) (.seq f15r11 (.seq f15r12 .ret)))))))))
abbrev f15 : Pfn := ⟨2, 57, [.cell 4 true 4, .tmp 5, .tmp 6, .tmp 7, .tmp 8], f15b⟩
def f15K : Array (List Nat) := #[[1, 2, 4], [2, 4, 9, 10, 11, 12], [2, 4, 9, 10, 11, 12, 25], [4, 5, 6, 7, 8], [2, 4, 10, 11, 29], [2, 4], [4, 5, 6, 7, 8], [2, 4, 10, 11, 13], [2, 4, 11, 13, 15, 16], [2, 4, 11, 13, 15, 49], [4, 5, 6, 7, 8], [2, 4, 11, 13], [4, 5, 6, 7, 8]]
def f15H : Array (List Nat) := #[[], [], [], [2], [], [], [2], [], [], [], [2, 15], [15], [2]]
def f15A : Ann := ⟨fun r => f15K.getD r [], fun r => f15H.getD r [], fun r i => ([] : List (Nat × Nat)).contains (r, i)⟩
theorem f15C : compF Go.Proofs.Try.prog f15A 15 = some f15 := by kernel_rfl

/-- switchboard/switchboardref10.Told -/
abbrev f17o0 : List (Nat × Pop) := [
  (0, ⟨(some 2), .box 43 2 (.tmp 0), none⟩),
  (1, ⟨(some 4), .alloc 43 [(.t (.i .i64 0)), .nl], none⟩)]
abbrev f17r0 : Pc := .reg f17o0 [1, 2, 4] []
abbrev f17o1 : List (Nat × Pop) := [
  (0, ⟨(some 7), .fad 0 (.tmp 2), none⟩),
  (1, ⟨(some 8), .load false 1 (.tmp 7), none⟩),
  (2, ⟨(some 9), .build [(.t (.i .i64 0)), .nl] [(0, 1, (.tmp 8))], none⟩),
  (3, ⟨(some 5), .alloc 43 [(.t (.i .i64 0)), .nl], none⟩),
  (4, ⟨none, .store 2 (.tmp 5) (.tmp 9), none⟩)]
abbrev f17r1 : Pc := .reg f17o1 [1, 2, 4, 5] []
abbrev f17o2 : List (Nat × Pop) := [
  (0, ⟨(some 6), .mv (.c (.t (.i .i64 0))), none⟩)]
abbrev f17r2 : Pc := .reg f17o2 [1, 2, 4, 5, 6] []
abbrev f17o3 : List (Nat × Pop) := [
  (0, ⟨(some 10), .mv (.tmp 6), none⟩),
  (1, ⟨(some 11), .fad 1 (.tmp 2), none⟩),
  (2, ⟨(some 12), .load false 1 (.tmp 11), none⟩),
  (3, ⟨(some 13), .lenL (.tmp 12), none⟩),
  (4, ⟨(some 14), .bin .lss (.tmp 10) (.tmp 13), none⟩)]
abbrev f17r3 : Pc := .reg f17o3 [1, 2, 4, 5, 6, 14] []
abbrev f17o5 : List (Nat × Pop) := [
  (0, ⟨(some 17), .fad 1 (.tmp 2), none⟩),
  (1, ⟨(some 18), .load false 1 (.tmp 17), none⟩),
  (2, ⟨(some 19), .mv (.tmp 6), none⟩),
  (3, ⟨(some 20), .ixS 2 (.tmp 18) (.tmp 19), none⟩),
  (4, ⟨(some 21), .fad 0 (.tmp 20), none⟩),
  (5, ⟨(some 22), .load false 1 (.tmp 21), none⟩),
  (6, ⟨(some 23), .mv (.tmp 1), none⟩),
  (7, ⟨(some 24), .bin .neq (.tmp 22) (.tmp 23), none⟩)]
abbrev f17r5 : Pc := .reg f17o5 [1, 2, 4, 5, 6, 24] []
abbrev f17o6 : List (Nat × Pop) := [
  (0, ⟨(some 25), .fad 1 (.tmp 5), none⟩),
  (1, ⟨(some 26), .load false 1 (.tmp 25), none⟩),
  (2, ⟨(some 27), .fad 1 (.tmp 2), none⟩),
  (3, ⟨(some 28), .load false 1 (.tmp 27), none⟩),
  (4, ⟨(some 29), .mv (.tmp 6), none⟩),
  (5, ⟨(some 30), .ixS 2 (.tmp 28) (.tmp 29), none⟩),
  (6, ⟨(some 31), .load true 2 (.tmp 30), none⟩),
  (7, ⟨(some 32), .bslF 2 [(.tmp 31)], none⟩),
  (8, ⟨(some 33), .app 81 2 24 (.tmp 26) (.tmp 32), none⟩),
  (9, ⟨(some 34), .fad 1 (.tmp 5), none⟩),
  (10, ⟨none, .store 1 (.tmp 34) (.tmp 33), none⟩)]
abbrev f17r6 : Pc := .reg f17o6 [1, 2, 4, 5, 6] []
abbrev f17o4 : List (Nat × Pop) := [
  (0, ⟨(some 15), .mv (.tmp 6), none⟩),
  (1, ⟨(some 16), .bin .add (.tmp 15) (.c (.t (.i .i64 1))), none⟩),
  (2, ⟨(some 6), .mv (.tmp 16), none⟩)]
abbrev f17r4 : Pc := .reg f17o4 [1, 2, 4, 5, 6] []
def f17l0 : Pc := (.seq (.seq f17r3 (.cond (.tmp 14) .skip (.exit 0))) (.seq (.block 1 (.seq f17r5 (.cond (.tmp 24) f17r6 .skip))) f17r4))
theorem f17l0e (C : Cfg) (s : St) : evL C f17l0 s = evL C (.seq (.seq f17r3 (.cond (.tmp 14) .skip (.exit 0))) (.seq (.block 1 (.seq f17r5 (.cond (.tmp 24) f17r6 .skip))) f17r4)) s := rfl
abbrev f17o7 : List (Nat × Pop) := [
  (0, ⟨(some 35), .load true 2 (.tmp 5), none⟩),
  (1, ⟨none, .store 2 (.tmp 4) (.tmp 35), none⟩)]
abbrev f17r7 : Pc := .reg f17o7 [4] [2, 5]
abbrev f17b : Pc := (.seq f17r0 (.seq f17r1 (.seq (.seq f17r2 (.block 0 (.loop f17l0))) (.seq f17r7 .ret))))
abbrev f17 : Pfn := ⟨2, 36, [.cell 4 true 2], f17b⟩
def f17K : Array (List Nat) := #[[1, 2, 4], [1, 2, 4, 5], [1, 2, 4, 5, 6], [1, 2, 4, 5, 6, 14], [1, 2, 4, 5, 6], [1, 2, 4, 5, 6, 24], [1, 2, 4, 5, 6], [4]]
def f17H : Array (List Nat) := #[[], [], [], [], [], [], [], [2, 5]]
def f17A : Ann := ⟨fun r => f17K.getD r [], fun r => f17H.getD r [], fun r i => ([] : List (Nat × Nat)).contains (r, i)⟩
theorem f17C : compF Go.Proofs.Try.prog f17A 17 = some f17 := by kernel_rfl

/-- switchboard/switchboardref09.Accept -/
abbrev f18o0 : List (Nat × Pop) := [
  (0, ⟨(some 2), .box 44 2 (.tmp 0), none⟩),
  (1, ⟨(some 4), .alloc 44 [(.t (.i .i64 0)), .nl], none⟩),
  (2, ⟨(some 5), .mv (.c (.t (.b false))), none⟩)]
abbrev f18r0 : Pc := .reg f18o0 [1, 2, 4] []
abbrev f18o1 : List (Nat × Pop) := [
  (0, ⟨(some 10), .load true 2 (.tmp 2), none⟩),
  (1, ⟨(some 11), .call 32 [(.tmp 10)], none⟩),
  (2, ⟨(some 12), .un .not (.tmp 11), none⟩),
  (3, ⟨(some 13), .mv (.tmp 12), none⟩),
  (4, ⟨(some 14), .mv (.tmp 1), (some (13, false))⟩),
  (5, ⟨(some 15), .fad 0 (.tmp 2), (some (13, false))⟩),
  (6, ⟨(some 16), .load false 1 (.tmp 15), (some (13, false))⟩),
  (7, ⟨(some 17), .bin .lss (.tmp 14) (.tmp 16), (some (13, false))⟩),
  (8, ⟨(some 18), .pick (.tmp 13) (.c (.t (.b true))) (.tmp 17), none⟩),
  (9, ⟨(some 19), .mv (.tmp 18), none⟩),
  (10, ⟨(some 20), .mv (.tmp 1), (some (19, false))⟩),
  (11, ⟨(some 21), .bin .gtr (.tmp 20) (.c (.t (.i .i64 2147483647))), (some (19, false))⟩),
  (12, ⟨(some 22), .pick (.tmp 19) (.c (.t (.b true))) (.tmp 21), none⟩)]
abbrev f18r1 : Pc := .reg f18o1 [1, 2, 4, 22] []
abbrev f18o2 : List (Nat × Pop) := [
  (0, ⟨(some 23), .load true 2 (.tmp 2), none⟩),
  (1, ⟨none, .store 2 (.tmp 4) (.tmp 23), none⟩),
  (2, ⟨(some 5), .mv (.c (.t (.b false))), none⟩)]
abbrev f18r2 : Pc := .reg f18o2 [4, 5] [2]
abbrev f18o3 : List (Nat × Pop) := [
  (0, ⟨(some 6), .nilv 3 1, none⟩)]
abbrev f18r3 : Pc := .reg f18o3 [1, 2, 4, 6] []
abbrev f18o4 : List (Nat × Pop) := [
  (0, ⟨(some 7), .mv (.c (.t (.b false))), none⟩)]
abbrev f18r4 : Pc := .reg f18o4 [1, 2, 4, 6, 7] []
abbrev f18o5 : List (Nat × Pop) := [
  (0, ⟨(some 8), .mv (.c (.t (.i .i64 0))), none⟩)]
abbrev f18r5 : Pc := .reg f18o5 [1, 2, 4, 6, 7, 8] []
abbrev f18o6 : List (Nat × Pop) := [
  (0, ⟨(some 24), .mv (.tmp 8), none⟩),
  (1, ⟨(some 25), .fad 1 (.tmp 2), none⟩),
  (2, ⟨(some 26), .load false 1 (.tmp 25), none⟩),
  (3, ⟨(some 27), .lenL (.tmp 26), none⟩),
  (4, ⟨(some 28), .bin .lss (.tmp 24) (.tmp 27), none⟩)]
abbrev f18r6 : Pc := .reg f18o6 [1, 2, 4, 6, 7, 8, 28] []
abbrev f18o8 : List (Nat × Pop) := [
  (0, ⟨(some 31), .fad 1 (.tmp 2), none⟩),
  (1, ⟨(some 32), .load false 1 (.tmp 31), none⟩),
  (2, ⟨(some 33), .mv (.tmp 8), none⟩),
  (3, ⟨(some 34), .ixS 1 (.tmp 32) (.tmp 33), none⟩),
  (4, ⟨(some 35), .load false 1 (.tmp 34), none⟩),
  (5, ⟨(some 36), .mv (.tmp 1), none⟩),
  (6, ⟨(some 37), .bin .eql (.tmp 35) (.tmp 36), none⟩)]
abbrev f18r8 : Pc := .reg f18o8 [1, 2, 4, 6, 7, 8, 37] []
abbrev f18o9 : List (Nat × Pop) := [
  (0, ⟨(some 38), .load true 2 (.tmp 2), none⟩),
  (1, ⟨none, .store 2 (.tmp 4) (.tmp 38), none⟩),
  (2, ⟨(some 5), .mv (.c (.t (.b false))), none⟩)]
abbrev f18r9 : Pc := .reg f18o9 [4, 5] [2]
abbrev f18o10 : List (Nat × Pop) := [
  (0, ⟨(some 39), .fad 1 (.tmp 2), none⟩),
  (1, ⟨(some 40), .load false 1 (.tmp 39), none⟩),
  (2, ⟨(some 41), .mv (.tmp 8), none⟩),
  (3, ⟨(some 42), .ixS 1 (.tmp 40) (.tmp 41), none⟩),
  (4, ⟨(some 43), .load false 1 (.tmp 42), none⟩),
  (5, ⟨(some 44), .mv (.tmp 1), none⟩),
  (6, ⟨(some 45), .bin .gtr (.tmp 43) (.tmp 44), none⟩),
  (7, ⟨(some 46), .mv (.tmp 45), none⟩),
  (8, ⟨(some 47), .mv (.tmp 7), (some (46, true))⟩),
  (9, ⟨(some 48), .un .not (.tmp 47), (some (46, true))⟩),
  (10, ⟨(some 49), .pick (.tmp 46) (.tmp 48) (.c (.t (.b false))), none⟩)]
abbrev f18r10 : Pc := .reg f18o10 [1, 2, 4, 6, 7, 8, 49] []
abbrev f18o11 : List (Nat × Pop) := [
  (0, ⟨(some 50), .mv (.tmp 6), none⟩),
  (1, ⟨(some 51), .mv (.tmp 1), none⟩),
  (2, ⟨(some 52), .bslT 1 [(.tmp 51)], none⟩),
  (3, ⟨(some 53), .app 3 1 8 (.tmp 50) (.tmp 52), none⟩),
  (4, ⟨(some 6), .mv (.tmp 53), none⟩)]
abbrev f18r11 : Pc := .reg f18o11 [1, 2, 4, 6, 8] []
abbrev f18o12 : List (Nat × Pop) := [
  (0, ⟨(some 7), .mv (.c (.t (.b true))), none⟩)]
abbrev f18r12 : Pc := .reg f18o12 [1, 2, 4, 6, 7, 8] []
abbrev f18o13 : List (Nat × Pop) := [
  (0, ⟨(some 54), .mv (.tmp 6), none⟩),
  (1, ⟨(some 55), .fad 1 (.tmp 2), none⟩),
  (2, ⟨(some 56), .load false 1 (.tmp 55), none⟩),
  (3, ⟨(some 57), .mv (.tmp 8), none⟩),
  (4, ⟨(some 58), .ixS 1 (.tmp 56) (.tmp 57), none⟩),
  (5, ⟨(some 59), .load false 1 (.tmp 58), none⟩),
  (6, ⟨(some 60), .bslT 1 [(.tmp 59)], none⟩),
  (7, ⟨(some 61), .app 3 1 8 (.tmp 54) (.tmp 60), none⟩),
  (8, ⟨(some 6), .mv (.tmp 61), none⟩)]
abbrev f18r13 : Pc := .reg f18o13 [1, 2, 4, 6, 7, 8] []
abbrev f18o7 : List (Nat × Pop) := [
  (0, ⟨(some 29), .mv (.tmp 8), none⟩),
  (1, ⟨(some 30), .bin .add (.tmp 29) (.c (.t (.i .i64 1))), none⟩),
  (2, ⟨(some 8), .mv (.tmp 30), none⟩)]
abbrev f18r7 : Pc := .reg f18o7 [1, 2, 4, 6, 7, 8] []
def f18l0 : Pc := (.seq (.seq f18r6 (.cond (.tmp 28) .skip (.exit 0))) (.seq (.block 1 (.seq (.seq f18r8 (.cond (.tmp 37) (.seq f18r9 .ret) .skip)) (.seq (.seq f18r10 (.cond (.tmp 49) (.seq f18r11 f18r12) .skip)) f18r13))) f18r7))
theorem f18l0e (C : Cfg) (s : St) : evL C f18l0 s = evL C (.seq (.seq f18r6 (.cond (.tmp 28) .skip (.exit 0))) (.seq (.block 1 (.seq (.seq f18r8 (.cond (.tmp 37) (.seq f18r9 .ret) .skip)) (.seq (.seq f18r10 (.cond (.tmp 49) (.seq f18r11 f18r12) .skip)) f18r13))) f18r7)) s := rfl
abbrev f18o14 : List (Nat × Pop) := [
  (0, ⟨(some 62), .mv (.tmp 7), none⟩),
  (1, ⟨(some 63), .un .not (.tmp 62), none⟩)]
abbrev f18r14 : Pc := .reg f18o14 [1, 2, 4, 6, 63] []
abbrev f18o15 : List (Nat × Pop) := [
  (0, ⟨(some 64), .mv (.tmp 6), none⟩),
  (1, ⟨(some 65), .mv (.tmp 1), none⟩),
  (2, ⟨(some 66), .bslT 1 [(.tmp 65)], none⟩),
  (3, ⟨(some 67), .app 3 1 8 (.tmp 64) (.tmp 66), none⟩),
  (4, ⟨(some 6), .mv (.tmp 67), none⟩)]
abbrev f18r15 : Pc := .reg f18o15 [2, 4, 6] []
abbrev f18o16 : List (Nat × Pop) := [
  (0, ⟨(some 68), .fad 0 (.tmp 2), none⟩),
  (1, ⟨(some 69), .load false 1 (.tmp 68), none⟩),
  (2, ⟨(some 9), .mv (.tmp 69), none⟩)]
abbrev f18r16 : Pc := .reg f18o16 [4, 6, 9] [2]
abbrev f18o17 : List (Nat × Pop) := [
  (0, ⟨(some 70), .mv (.tmp 6), none⟩),
  (1, ⟨(some 71), .lenL (.tmp 70), none⟩),
  (2, ⟨(some 72), .bin .eql (.tmp 71) (.c (.t (.i .i64 33))), none⟩)]
abbrev f18r17 : Pc := .reg f18o17 [4, 6, 9, 72] []
abbrev f18o18 : List (Nat × Pop) := [
  (0, ⟨(some 73), .mv (.tmp 6), none⟩),
  (1, ⟨(some 74), .ixS 1 (.tmp 73) (.c (.t (.i .i64 0))), none⟩),
  (2, ⟨(some 75), .load false 1 (.tmp 74), none⟩),
  (3, ⟨(some 76), .bin .add (.tmp 75) (.c (.t (.i .i64 1))), none⟩),
  (4, ⟨(some 9), .mv (.tmp 76), none⟩)]
abbrev f18r18 : Pc := .reg f18o18 [4, 6, 9] []
abbrev f18o19 : List (Nat × Pop) := [
  (0, ⟨(some 77), .mv (.tmp 6), none⟩),
  (1, ⟨(some 78), .sls 1 (.tmp 77) (some (.c (.t (.i .i64 1)))) none, none⟩),
  (2, ⟨(some 6), .mv (.tmp 78), none⟩)]
abbrev f18r19 : Pc := .reg f18o19 [4, 6, 9] []
abbrev f18o20 : List (Nat × Pop) := [
  (0, ⟨(some 79), .mv (.tmp 6), none⟩),
  (1, ⟨(some 80), .lenL (.tmp 79), none⟩),
  (2, ⟨(some 81), .bin .gtr (.tmp 80) (.c (.t (.i .i64 0))), none⟩),
  (3, ⟨(some 82), .mv (.tmp 81), none⟩),
  (4, ⟨(some 83), .mv (.tmp 6), (some (82, true))⟩),
  (5, ⟨(some 84), .ixS 1 (.tmp 83) (.c (.t (.i .i64 0))), (some (82, true))⟩),
  (6, ⟨(some 85), .load false 1 (.tmp 84), (some (82, true))⟩),
  (7, ⟨(some 86), .mv (.tmp 9), (some (82, true))⟩),
  (8, ⟨(some 87), .bin .eql (.tmp 85) (.tmp 86), (some (82, true))⟩),
  (9, ⟨(some 88), .pick (.tmp 82) (.tmp 87) (.c (.t (.b false))), none⟩)]
abbrev f18r20 : Pc := .reg f18o20 [4, 6, 9, 88] []
abbrev f18o21 : List (Nat × Pop) := [
  (0, ⟨(some 89), .mv (.tmp 9), none⟩),
  (1, ⟨(some 90), .bin .add (.tmp 89) (.c (.t (.i .i64 1))), none⟩),
  (2, ⟨(some 9), .mv (.tmp 90), none⟩)]
abbrev f18r21 : Pc := .reg f18o21 [4, 6, 9] []
abbrev f18o22 : List (Nat × Pop) := [
  (0, ⟨(some 91), .mv (.tmp 6), none⟩),
  (1, ⟨(some 92), .sls 1 (.tmp 91) (some (.c (.t (.i .i64 1)))) none, none⟩),
  (2, ⟨(some 6), .mv (.tmp 92), none⟩)]
abbrev f18r22 : Pc := .reg f18o22 [4, 6, 9] []
def f18l1 : Pc := (.seq (.seq f18r20 (.cond (.tmp 88) .skip (.exit 2))) (.block 3 (.seq f18r21 f18r22)))
theorem f18l1e (C : Cfg) (s : St) : evL C f18l1 s = evL C (.seq (.seq f18r20 (.cond (.tmp 88) .skip (.exit 2))) (.block 3 (.seq f18r21 f18r22))) s := rfl
abbrev f18o23 : List (Nat × Pop) := [
  (0, ⟨(some 93), .mv (.tmp 9), none⟩),
  (1, ⟨(some 94), .mv (.tmp 6), none⟩),
  (2, ⟨(some 95), .build [(.t (.i .i64 0)), .nl] [(0, 1, (.tmp 93)), (1, 1, (.tmp 94))], none⟩),
  (3, ⟨none, .store 2 (.tmp 4) (.tmp 95), none⟩),
  (4, ⟨(some 5), .mv (.c (.t (.b true))), none⟩)]
abbrev f18r23 : Pc := .reg f18o23 [4, 5] []
abbrev f18b : Pc := (.seq f18r0 (.seq (.seq f18r1 (.cond (.tmp 22) (.seq f18r2 .ret) .skip)) (.seq f18r3 (.seq f18r4 (.seq (.seq f18r5 (.block 0 (.loop f18l0))) (.seq (.seq f18r14 (.cond (.tmp 63) f18r15 .skip)) (.seq f18r16 (.seq (.seq f18r17 (.cond (.tmp 72) (.seq f18r18 f18r19) .skip)) (.seq (.block 2 (.loop f18l1)) (.seq f18r23 .ret))))))))))
abbrev f18 : Pfn := ⟨2, 96, [.cell 4 true 2, .tmp 5], f18b⟩
def f18K : Array (List Nat) := #[[1, 2, 4], [1, 2, 4, 22], [4, 5], [1, 2, 4, 6], [1, 2, 4, 6, 7], [1, 2, 4, 6, 7, 8], [1, 2, 4, 6, 7, 8, 28], [1, 2, 4, 6, 7, 8], [1, 2, 4, 6, 7, 8, 37], [4, 5], [1, 2, 4, 6, 7, 8, 49], [1, 2, 4, 6, 8], [1, 2, 4, 6, 7, 8], [1, 2, 4, 6, 7, 8], [1, 2, 4, 6, 63], [2, 4, 6], [4, 6, 9], [4, 6, 9, 72], [4, 6, 9], [4, 6, 9], [4, 6, 9, 88], [4, 6, 9], [4, 6, 9], [4, 5]]
def f18H : Array (List Nat) := #[[], [], [2], [], [], [], [], [], [], [2], [], [], [], [], [], [], [2], [], [], [], [], [], [], []]
def f18A : Ann := ⟨fun r => f18K.getD r [], fun r => f18H.getD r [], fun r i => ([] : List (Nat × Nat)).contains (r, i)⟩
theorem f18C : compF Go.Proofs.Try.prog f18A 18 = some f18 := by kernel_rfl

/-- switchboard/port.Again -/
abbrev f21o0 : List (Nat × Pop) := [
  (0, ⟨(some 1), .box 40 4 (.tmp 0), none⟩),
  (1, ⟨(some 2), .nilv 9 1, none⟩)]
abbrev f21r0 : Pc := .reg f21o0 [1] [2, 3, 29]
abbrev f21o1 : List (Nat × Pop) := [
  (0, ⟨(some 3), .nilv 9 1, none⟩)]
abbrev f21r1 : Pc := .reg f21o1 [1, 3] []
abbrev f21o2 : List (Nat × Pop) := [
  (0, ⟨(some 8), .fad 0 (.tmp 1), none⟩),
  (1, ⟨(some 9), .fad 1 (.tmp 8), none⟩),
  (2, ⟨(some 10), .load false 1 (.tmp 9), none⟩),
  (3, ⟨(some 11), .lenL (.tmp 10), none⟩),
  (4, ⟨(some 12), .mv (.c (.t (.i .i64 0))), none⟩)]
abbrev f21r2 : Pc := .reg f21o2 [3, 10, 11, 12] [1]
abbrev f21o3 : List (Nat × Pop) := [
  (0, ⟨(some 13), .bin .lss (.tmp 12) (.tmp 11), none⟩)]
abbrev f21r3 : Pc := .reg f21o3 [3, 10, 11, 12, 13] []
abbrev f21o4 : List (Nat × Pop) := [
  (0, ⟨(some 14), .ixS 2 (.tmp 10) (.tmp 12), none⟩),
  (1, ⟨(some 15), .load true 2 (.tmp 14), none⟩),
  (2, ⟨(some 5), .alloc 80 [(.t (.i .i64 0)), (.t (.s []))], none⟩),
  (3, ⟨none, .store 2 (.tmp 5) (.tmp 15), none⟩)]
abbrev f21r4 : Pc := .reg f21o4 [3, 5, 10, 11, 12] []
abbrev f21o5 : List (Nat × Pop) := [
  (0, ⟨(some 17), .fad 0 (.tmp 5), none⟩),
  (1, ⟨(some 18), .load false 1 (.tmp 17), none⟩),
  (2, ⟨(some 19), .fad 1 (.tmp 5), none⟩),
  (3, ⟨(some 20), .load false 1 (.tmp 19), none⟩),
  (4, ⟨(some 21), .call 10 [(.c (.t (.i .u8 68))), (.tmp 18), (.tmp 20)], none⟩),
  (5, ⟨(some 16), .mv (.tmp 21), none⟩),
  (6, ⟨(some 22), .ext 0 (.tmp 16), none⟩),
  (7, ⟨(some 23), .ext 1 (.tmp 16), none⟩),
  (8, ⟨(some 6), .mv (.tmp 22), none⟩),
  (9, ⟨(some 7), .mv (.tmp 23), none⟩)]
abbrev f21r5 : Pc := .reg f21o5 [3, 6, 7, 10, 11, 12] [5]
abbrev f21o6 : List (Nat × Pop) := [
  (0, ⟨(some 24), .mv (.tmp 7), none⟩),
  (1, ⟨(some 25), .bin .eql (.tmp 24) (.c (.t (.i .i64 0))), none⟩)]
abbrev f21r6 : Pc := .reg f21o6 [3, 6, 10, 11, 12, 25] []
abbrev f21o7 : List (Nat × Pop) := [
  (0, ⟨(some 26), .mv (.tmp 3), none⟩),
  (1, ⟨(some 27), .mv (.tmp 6), none⟩),
  (2, ⟨(some 28), .bslT 1 [(.tmp 27)], none⟩),
  (3, ⟨(some 29), .app 9 1 16 (.tmp 26) (.tmp 28), none⟩),
  (4, ⟨(some 3), .mv (.tmp 29), none⟩)]
abbrev f21r7 : Pc := .reg f21o7 [3, 10, 11, 12] []
abbrev f21o8 : List (Nat × Pop) := [
  (0, ⟨(some 30), .bin .add (.tmp 12) (.c (.t (.i .i64 1))), none⟩),
  (1, ⟨(some 12), .mv (.tmp 30), none⟩)]
abbrev f21r8 : Pc := .reg f21o8 [3, 10, 11, 12] []
def f21l0 : Pc := (.seq f21r3 (.seq (.cond (.tmp 13) .skip (.exit 0)) (.seq (.block 1 (.seq f21r4 (.seq f21r5 (.seq f21r6 (.cond (.tmp 25) f21r7 .skip))))) f21r8)))
theorem f21l0e (C : Cfg) (s : St) : evL C f21l0 s = evL C (.seq f21r3 (.seq (.cond (.tmp 13) .skip (.exit 0)) (.seq (.block 1 (.seq f21r4 (.seq f21r5 (.seq f21r6 (.cond (.tmp 25) f21r7 .skip))))) f21r8))) s := rfl
abbrev f21o9 : List (Nat × Pop) := [
  (0, ⟨(some 31), .mv (.tmp 3), none⟩),
  (1, ⟨(some 2), .mv (.tmp 31), none⟩)]
abbrev f21r9 : Pc := .reg f21o9 [2] []
abbrev f21b : Pc := (.seq f21r0 (.seq f21r1 (.seq (.seq f21r2 (.block 0 (.loop f21l0))) (.seq f21r9 .ret))))
abbrev f21 : Pfn := ⟨1, 32, [.tmp 2], f21b⟩
def f21K : Array (List Nat) := #[[1], [1, 3], [3, 10, 11, 12], [3, 10, 11, 12, 13], [3, 5, 10, 11, 12], [3, 6, 7, 10, 11, 12], [3, 6, 10, 11, 12, 25], [3, 10, 11, 12], [3, 10, 11, 12], [2]]
def f21H : Array (List Nat) := #[[2, 3, 29], [], [1], [], [], [5], [], [], [], []]
def f21A : Ann := ⟨fun r => f21K.getD r [], fun r => f21H.getD r [], fun r i => ([] : List (Nat × Nat)).contains (r, i)⟩
theorem f21C : compF Go.Proofs.Try.prog f21A 21 = some f21 := by kernel_rfl

/-- switchboard/port.Send -/
abbrev f23o0 : List (Nat × Pop) := [
  (0, ⟨(some 2), .box 40 4 (.tmp 0), none⟩),
  (1, ⟨(some 4), .alloc 40 [(.t (.i .i64 0)), .nl, (.t (.i .i64 0)), .nl], none⟩),
  (2, ⟨(some 5), .mv (.c (.t (.s []))), none⟩),
  (3, ⟨(some 6), .mv (.c (.t (.i .i64 0))), none⟩)]
abbrev f23r0 : Pc := .reg f23o0 [1, 2, 4] []
abbrev f23o1 : List (Nat × Pop) := [
  (0, ⟨(some 14), .fad 0 (.tmp 2), none⟩),
  (1, ⟨(some 15), .load true 2 (.tmp 14), none⟩),
  (2, ⟨(some 16), .mv (.tmp 1), none⟩),
  (3, ⟨(some 17), .call 35 [(.tmp 15), (.tmp 16)], none⟩),
  (4, ⟨(some 13), .mv (.tmp 17), none⟩),
  (5, ⟨(some 18), .ext 0 (.tmp 13), none⟩),
  (6, ⟨(some 19), .ext 1 (.tmp 13), none⟩),
  (7, ⟨(some 20), .ext 2 (.tmp 13), none⟩),
  (8, ⟨(some 7), .alloc 35 [(.t (.i .i64 0)), .nl], none⟩),
  (9, ⟨none, .store 2 (.tmp 7) (.tmp 18), none⟩),
  (10, ⟨(some 8), .mv (.tmp 19), none⟩),
  (11, ⟨(some 9), .mv (.tmp 20), none⟩)]
abbrev f23r1 : Pc := .reg f23o1 [1, 2, 4, 7, 8, 9] []
abbrev f23o2 : List (Nat × Pop) := [
  (0, ⟨(some 21), .mv (.tmp 9), none⟩),
  (1, ⟨(some 22), .bin .eql (.tmp 21) (.c (.t (.i .i64 1))), none⟩)]
abbrev f23r2 : Pc := .reg f23o2 [1, 2, 4, 7, 8, 9, 22] []
abbrev f23o3 : List (Nat × Pop) := [
  (0, ⟨(some 23), .load true 4 (.tmp 2), none⟩),
  (1, ⟨(some 24), .mv (.tmp 9), none⟩),
  (2, ⟨none, .store 4 (.tmp 4) (.tmp 23), none⟩),
  (3, ⟨(some 5), .mv (.c (.t (.s []))), none⟩),
  (4, ⟨(some 6), .mv (.tmp 24), none⟩)]
abbrev f23r3 : Pc := .reg f23o3 [4, 5, 6] [2, 7]
abbrev f23o4 : List (Nat × Pop) := [
  (0, ⟨(some 25), .fad 0 (.tmp 2), none⟩),
  (1, ⟨(some 26), .fad 1 (.tmp 25), none⟩),
  (2, ⟨(some 27), .load false 1 (.tmp 26), none⟩),
  (3, ⟨(some 10), .mv (.tmp 27), none⟩)]
abbrev f23r4 : Pc := .reg f23o4 [1, 2, 4, 7, 8, 9, 10] []
abbrev f23o5 : List (Nat × Pop) := [
  (0, ⟨(some 28), .mv (.tmp 10), none⟩),
  (1, ⟨(some 29), .lenL (.tmp 28), none⟩),
  (2, ⟨(some 30), .bin .gtr (.tmp 29) (.c (.t (.i .i64 0))), none⟩),
  (3, ⟨(some 31), .mv (.tmp 30), none⟩),
  (4, ⟨(some 32), .fad 0 (.tmp 2), (some (31, true))⟩),
  (5, ⟨(some 33), .fad 0 (.tmp 32), (some (31, true))⟩),
  (6, ⟨(some 34), .load false 1 (.tmp 33), (some (31, true))⟩),
  (7, ⟨(some 35), .mv (.tmp 10), (some (31, true))⟩),
  (8, ⟨(some 36), .ixS 2 (.tmp 35) (.c (.t (.i .i64 0))), (some (31, true))⟩),
  (9, ⟨(some 37), .fad 0 (.tmp 36), (some (31, true))⟩),
  (10, ⟨(some 38), .load false 1 (.tmp 37), (some (31, true))⟩),
  (11, ⟨(some 39), .bin .sub (.tmp 34) (.tmp 38), (some (31, true))⟩),
  (12, ⟨(some 40), .bin .geq (.tmp 39) (.c (.t (.i .i64 32))), (some (31, true))⟩),
  (13, ⟨(some 41), .pick (.tmp 31) (.tmp 40) (.c (.t (.b false))), none⟩)]
abbrev f23r5 : Pc := .reg f23o5 [1, 2, 4, 7, 8, 9, 41] []
abbrev f23o6 : List (Nat × Pop) := [
  (0, ⟨(some 42), .load true 4 (.tmp 2), none⟩),
  (1, ⟨none, .store 4 (.tmp 4) (.tmp 42), none⟩),
  (2, ⟨(some 5), .mv (.c (.t (.s []))), none⟩),
  (3, ⟨(some 6), .mv (.c (.t (.i .i64 8))), none⟩)]
abbrev f23r6 : Pc := .reg f23o6 [4, 5, 6] [2, 7]
abbrev f23o7 : List (Nat × Pop) := [
  (0, ⟨(some 43), .mv (.tmp 9), none⟩),
  (1, ⟨(some 44), .bin .neq (.tmp 43) (.c (.t (.i .i64 0))), none⟩)]
abbrev f23r7 : Pc := .reg f23o7 [1, 2, 4, 7, 8, 9, 44] []
abbrev f23o8 : List (Nat × Pop) := [
  (0, ⟨(some 45), .load true 4 (.tmp 2), none⟩),
  (1, ⟨(some 46), .mv (.tmp 9), none⟩),
  (2, ⟨none, .store 4 (.tmp 4) (.tmp 45), none⟩),
  (3, ⟨(some 5), .mv (.c (.t (.s []))), none⟩),
  (4, ⟨(some 6), .mv (.tmp 46), none⟩)]
abbrev f23r8 : Pc := .reg f23o8 [4, 5, 6] [2, 7]
abbrev f23o9 : List (Nat × Pop) := [
  (0, ⟨(some 47), .load true 2 (.tmp 7), none⟩),
  (1, ⟨(some 48), .fad 0 (.tmp 2), none⟩),
  (2, ⟨none, .store 2 (.tmp 48) (.tmp 47), none⟩)]
abbrev f23r9 : Pc := .reg f23o9 [1, 2, 4, 8] [7]
abbrev f23o10 : List (Nat × Pop) := [
  (0, ⟨(some 50), .mv (.tmp 8), none⟩),
  (1, ⟨(some 51), .mv (.tmp 1), none⟩),
  (2, ⟨(some 52), .call 10 [(.c (.t (.i .u8 68))), (.tmp 50), (.tmp 51)], none⟩),
  (3, ⟨(some 49), .mv (.tmp 52), none⟩),
  (4, ⟨(some 53), .ext 0 (.tmp 49), none⟩),
  (5, ⟨(some 54), .ext 1 (.tmp 49), none⟩),
  (6, ⟨(some 11), .mv (.tmp 53), none⟩),
  (7, ⟨(some 12), .mv (.tmp 54), none⟩)]
abbrev f23r10 : Pc := .reg f23o10 [2, 4, 11] []
abbrev f23o11 : List (Nat × Pop) := [
  (0, ⟨(some 55), .load true 4 (.tmp 2), none⟩),
  (1, ⟨(some 56), .mv (.tmp 11), none⟩),
  (2, ⟨none, .store 4 (.tmp 4) (.tmp 55), none⟩),
  (3, ⟨(some 5), .mv (.tmp 56), none⟩),
  (4, ⟨(some 6), .mv (.c (.t (.i .i64 0))), none⟩)]
abbrev f23r11 : Pc := .reg f23o11 [4, 5, 6] [2]
abbrev f23b : Pc := (.seq f23r0 (.seq f23r1 (.seq (.seq f23r2 (.cond (.tmp 22) (.seq f23r3 .ret) .skip)) (.seq (.seq f23r4 (.seq f23r5 (.cond (.tmp 41) (.seq f23r6 .ret) .skip))) (.seq (.seq f23r7 (.cond (.tmp 44) (.seq f23r8 .ret) .skip)) (.seq f23r9 (.seq f23r10 (.seq f23r11 .ret))))))))
abbrev f23 : Pfn := ⟨2, 57, [.cell 4 true 4, .tmp 5, .tmp 6], f23b⟩
def f23K : Array (List Nat) := #[[1, 2, 4], [1, 2, 4, 7, 8, 9], [1, 2, 4, 7, 8, 9, 22], [4, 5, 6], [1, 2, 4, 7, 8, 9, 10], [1, 2, 4, 7, 8, 9, 41], [4, 5, 6], [1, 2, 4, 7, 8, 9, 44], [4, 5, 6], [1, 2, 4, 8], [2, 4, 11], [4, 5, 6]]
def f23H : Array (List Nat) := #[[], [], [], [2, 7], [], [], [2, 7], [], [2, 7], [7], [], [2]]
def f23A : Ann := ⟨fun r => f23K.getD r [], fun r => f23H.getD r [], fun r i => ([] : List (Nat × Nat)).contains (r, i)⟩
theorem f23C : compF Go.Proofs.Try.prog f23A 23 = some f23 := by kernel_rfl

/-- switchboard/link.Told -/
abbrev f24o0 : List (Nat × Pop) := [
  (0, ⟨(some 2), .box 35 2 (.tmp 0), none⟩),
  (1, ⟨(some 3), .box 3 1 (.tmp 1), none⟩),
  (2, ⟨(some 4), .alloc 35 [(.t (.i .i64 0)), .nl], none⟩)]
abbrev f24r0 : Pc := .reg f24o0 [2, 3, 4] []
abbrev f24o1 : List (Nat × Pop) := [
  (0, ⟨(some 5), .fad 1 (.tmp 2), none⟩),
  (1, ⟨(some 6), .load false 1 (.tmp 5), none⟩),
  (2, ⟨(some 7), .call 37 [(.tmp 6)], none⟩),
  (3, ⟨(some 8), .mkfn 38 [(.tmp 3)], none⟩),
  (4, ⟨(some 9), .call 36 [(.tmp 7), (.tmp 8)], none⟩),
  (5, ⟨(some 10), .fad 1 (.tmp 2), none⟩),
  (6, ⟨none, .store 1 (.tmp 10) (.tmp 9), none⟩)]
abbrev f24r1 : Pc := .reg f24o1 [2, 4] []
abbrev f24o2 : List (Nat × Pop) := [
  (0, ⟨(some 11), .load true 2 (.tmp 2), none⟩),
  (1, ⟨none, .store 2 (.tmp 4) (.tmp 11), none⟩)]
abbrev f24r2 : Pc := .reg f24o2 [4] []
abbrev f24b : Pc := (.seq f24r0 (.seq f24r1 (.seq f24r2 .ret)))
abbrev f24 : Pfn := ⟨2, 12, [.cell 4 true 2], f24b⟩
def f24K : Array (List Nat) := #[[2, 3, 4], [2, 4], [4]]
def f24H : Array (List Nat) := #[[], [], []]
def f24A : Ann := ⟨fun r => f24K.getD r [], fun r => f24H.getD r [], fun r i => ([] : List (Nat × Nat)).contains (r, i)⟩
theorem f24C : compF Go.Proofs.Try.prog f24A 24 = some f24 := by kernel_rfl

/-- switchboard/port.four -/
abbrev f25o0 : List (Nat × Pop) := [
  (0, ⟨(some 2), .mv (.c (.t (.s []))), none⟩)]
abbrev f25r0 : Pc := .reg f25o0 [0] []
abbrev f25o1 : List (Nat × Pop) := [
  (0, ⟨(some 3), .mv (.tmp 0), none⟩),
  (1, ⟨(some 4), .cvi .u8 (.tmp 3), none⟩),
  (2, ⟨(some 5), .mv (.tmp 0), none⟩),
  (3, ⟨(some 6), .bin .shr (.tmp 5) (.c (.t (.i .u64 8))), none⟩),
  (4, ⟨(some 7), .cvi .u8 (.tmp 6), none⟩),
  (5, ⟨(some 8), .mv (.tmp 0), none⟩),
  (6, ⟨(some 9), .bin .shr (.tmp 8) (.c (.t (.i .u64 16))), none⟩),
  (7, ⟨(some 10), .cvi .u8 (.tmp 9), none⟩),
  (8, ⟨(some 11), .mv (.tmp 0), none⟩),
  (9, ⟨(some 12), .bin .shr (.tmp 11) (.c (.t (.i .u64 24))), none⟩),
  (10, ⟨(some 13), .cvi .u8 (.tmp 12), none⟩),
  (11, ⟨(some 14), .bslT 1 [(.tmp 4), (.tmp 7), (.tmp 10), (.tmp 13)], none⟩),
  (12, ⟨(some 15), .cvbs (.tmp 14), none⟩),
  (13, ⟨(some 2), .mv (.tmp 15), none⟩)]
abbrev f25r1 : Pc := .reg f25o1 [2] []
abbrev f25b : Pc := (.seq f25r0 (.seq f25r1 .ret))
abbrev f25 : Pfn := ⟨1, 16, [.tmp 2], f25b⟩
def f25K : Array (List Nat) := #[[0], [2]]
def f25H : Array (List Nat) := #[[], []]
def f25A : Ann := ⟨fun r => f25K.getD r [], fun r => f25H.getD r [], fun r i => ([] : List (Nat × Nat)).contains (r, i)⟩
theorem f25C : compF Go.Proofs.Try.prog f25A 25 = some f25 := by kernel_rfl

/-- switchboard/crc.Sum -/
abbrev f26o0 : List (Nat × Pop) := [
  (0, ⟨(some 2), .mv (.c (.t (.i .i64 0))), none⟩)]
abbrev f26r0 : Pc := .reg f26o0 [0] []
abbrev f26o1 : List (Nat × Pop) := [
  (0, ⟨(some 3), .mv (.c (.t (.i .u32 4294967295))), none⟩)]
abbrev f26r1 : Pc := .reg f26o1 [0, 3] []
abbrev f26o2 : List (Nat × Pop) := [
  (0, ⟨(some 7), .mv (.tmp 0), none⟩),
  (1, ⟨(some 8), .sbs 5 (.tmp 7), none⟩),
  (2, ⟨(some 9), .lenL (.tmp 8), none⟩),
  (3, ⟨(some 10), .mv (.c (.t (.i .i64 0))), none⟩)]
abbrev f26r2 : Pc := .reg f26o2 [3, 8, 9, 10] []
abbrev f26o3 : List (Nat × Pop) := [
  (0, ⟨(some 11), .bin .lss (.tmp 10) (.tmp 9), none⟩)]
abbrev f26r3 : Pc := .reg f26o3 [3, 8, 9, 10, 11] []
abbrev f26o4 : List (Nat × Pop) := [
  (0, ⟨(some 12), .ixS 1 (.tmp 8) (.tmp 10), none⟩),
  (1, ⟨(some 13), .load false 1 (.tmp 12), none⟩),
  (2, ⟨(some 5), .mv (.tmp 13), none⟩)]
abbrev f26r4 : Pc := .reg f26o4 [3, 5, 8, 9, 10] []
abbrev f26o5 : List (Nat × Pop) := [
  (0, ⟨(some 14), .mv (.tmp 3), none⟩),
  (1, ⟨(some 15), .mv (.tmp 5), none⟩),
  (2, ⟨(some 16), .cvi .u32 (.tmp 15), none⟩),
  (3, ⟨(some 17), .bin .xor (.tmp 14) (.tmp 16), none⟩),
  (4, ⟨(some 3), .mv (.tmp 17), none⟩)]
abbrev f26r5 : Pc := .reg f26o5 [3, 8, 9, 10] []
abbrev f26o6 : List (Nat × Pop) := [
  (0, ⟨(some 18), .mv (.c (.t (.i .i64 0))), none⟩)]
abbrev f26r6 : Pc := .reg f26o6 [3, 8, 9, 10, 18] []
abbrev f26o7 : List (Nat × Pop) := [
  (0, ⟨(some 19), .bin .lss (.tmp 18) (.c (.t (.i .i64 8))), none⟩)]
abbrev f26r7 : Pc := .reg f26o7 [3, 8, 9, 10, 18, 19] []
abbrev f26o8 : List (Nat × Pop) := [
  (0, ⟨(some 20), .mv (.tmp 3), none⟩),
  (1, ⟨(some 21), .bin .and (.tmp 20) (.c (.t (.i .u32 1))), none⟩),
  (2, ⟨(some 6), .mv (.tmp 21), none⟩)]
abbrev f26r8 : Pc := .reg f26o8 [3, 6, 8, 9, 10, 18] []
abbrev f26o9 : List (Nat × Pop) := [
  (0, ⟨(some 22), .mv (.tmp 3), none⟩),
  (1, ⟨(some 23), .bin .shr (.tmp 22) (.c (.t (.i .u64 1))), none⟩),
  (2, ⟨(some 3), .mv (.tmp 23), none⟩)]
abbrev f26r9 : Pc := .reg f26o9 [3, 6, 8, 9, 10, 18] []
abbrev f26o10 : List (Nat × Pop) := [
  (0, ⟨(some 24), .mv (.tmp 3), none⟩),
  (1, ⟨(some 25), .mv (.tmp 6), none⟩),
  (2, ⟨(some 26), .bin .mul (.c (.t (.i .u32 3988292384))) (.tmp 25), none⟩),
  (3, ⟨(some 27), .bin .xor (.tmp 24) (.tmp 26), none⟩),
  (4, ⟨(some 3), .mv (.tmp 27), none⟩)]
abbrev f26r10 : Pc := .reg f26o10 [3, 8, 9, 10, 18] []
abbrev f26o11 : List (Nat × Pop) := [
  (0, ⟨(some 28), .bin .add (.tmp 18) (.c (.t (.i .i64 1))), none⟩),
  (1, ⟨(some 18), .mv (.tmp 28), none⟩)]
abbrev f26r11 : Pc := .reg f26o11 [3, 8, 9, 10, 18] []
def f26l0 : Pc := (.seq f26r7 (.seq (.cond (.tmp 19) .skip (.exit 2)) (.seq (.block 3 (.seq f26r8 (.seq f26r9 f26r10))) f26r11)))
theorem f26l0e (C : Cfg) (s : St) : evL C f26l0 s = evL C (.seq f26r7 (.seq (.cond (.tmp 19) .skip (.exit 2)) (.seq (.block 3 (.seq f26r8 (.seq f26r9 f26r10))) f26r11))) s := rfl
abbrev f26o12 : List (Nat × Pop) := [
  (0, ⟨(some 29), .bin .add (.tmp 10) (.c (.t (.i .i64 1))), none⟩),
  (1, ⟨(some 10), .mv (.tmp 29), none⟩)]
abbrev f26r12 : Pc := .reg f26o12 [3, 8, 9, 10] []
def f26l1 : Pc := (.seq f26r3 (.seq (.cond (.tmp 11) .skip (.exit 0)) (.seq (.block 1 (.seq f26r4 (.seq f26r5 (.seq f26r6 (.block 2 (.loop f26l0)))))) f26r12)))
theorem f26l1e (C : Cfg) (s : St) : evL C f26l1 s = evL C (.seq f26r3 (.seq (.cond (.tmp 11) .skip (.exit 0)) (.seq (.block 1 (.seq f26r4 (.seq f26r5 (.seq f26r6 (.block 2 (.loop f26l0)))))) f26r12))) s := rfl
abbrev f26o13 : List (Nat × Pop) := [
  (0, ⟨(some 30), .mv (.tmp 3), none⟩),
  (1, ⟨(some 31), .bin .xor (.tmp 30) (.c (.t (.i .u32 4294967295))), none⟩),
  (2, ⟨(some 32), .cvi .i64 (.tmp 31), none⟩),
  (3, ⟨(some 2), .mv (.tmp 32), none⟩)]
abbrev f26r13 : Pc := .reg f26o13 [2] [8]
abbrev f26b : Pc := (.seq f26r0 (.seq f26r1 (.seq (.seq f26r2 (.block 0 (.loop f26l1))) (.seq f26r13 .ret))))
abbrev f26 : Pfn := ⟨1, 33, [.tmp 2], f26b⟩
def f26K : Array (List Nat) := #[[0], [0, 3], [3, 8, 9, 10], [3, 8, 9, 10, 11], [3, 5, 8, 9, 10], [3, 8, 9, 10], [3, 8, 9, 10, 18], [3, 8, 9, 10, 18, 19], [3, 6, 8, 9, 10, 18], [3, 6, 8, 9, 10, 18], [3, 8, 9, 10, 18], [3, 8, 9, 10, 18], [3, 8, 9, 10], [2]]
def f26H : Array (List Nat) := #[[], [], [], [], [], [], [], [], [], [], [], [], [], [8]]
def f26A : Ann := ⟨fun r => f26K.getD r [], fun r => f26H.getD r [], fun r i => ([] : List (Nat × Nat)).contains (r, i)⟩
theorem f26C : compF Go.Proofs.Try.prog f26A 26 = some f26 := by kernel_rfl

/-- switchboard/switchboardref23.four -/
abbrev f27o0 : List (Nat × Pop) := [
  (0, ⟨(some 2), .mv (.c (.t (.s []))), none⟩)]
abbrev f27r0 : Pc := .reg f27o0 [0] []
abbrev f27o1 : List (Nat × Pop) := [
  (0, ⟨(some 3), .mv (.tmp 0), none⟩),
  (1, ⟨(some 4), .bin .rem (.tmp 3) (.c (.t (.i .i64 256))), none⟩),
  (2, ⟨(some 5), .cvi .u8 (.tmp 4), none⟩),
  (3, ⟨(some 6), .mv (.tmp 0), none⟩),
  (4, ⟨(some 7), .bin .quo (.tmp 6) (.c (.t (.i .i64 256))), none⟩),
  (5, ⟨(some 8), .bin .rem (.tmp 7) (.c (.t (.i .i64 256))), none⟩),
  (6, ⟨(some 9), .cvi .u8 (.tmp 8), none⟩),
  (7, ⟨(some 10), .mv (.tmp 0), none⟩),
  (8, ⟨(some 11), .bin .quo (.tmp 10) (.c (.t (.i .i64 65536))), none⟩),
  (9, ⟨(some 12), .bin .rem (.tmp 11) (.c (.t (.i .i64 256))), none⟩),
  (10, ⟨(some 13), .cvi .u8 (.tmp 12), none⟩),
  (11, ⟨(some 14), .mv (.tmp 0), none⟩),
  (12, ⟨(some 15), .bin .quo (.tmp 14) (.c (.t (.i .i64 16777216))), none⟩),
  (13, ⟨(some 16), .bin .rem (.tmp 15) (.c (.t (.i .i64 256))), none⟩),
  (14, ⟨(some 17), .cvi .u8 (.tmp 16), none⟩),
  (15, ⟨(some 18), .bslT 1 [(.tmp 5), (.tmp 9), (.tmp 13), (.tmp 17)], none⟩),
  (16, ⟨(some 19), .cvbs (.tmp 18), none⟩),
  (17, ⟨(some 2), .mv (.tmp 19), none⟩)]
abbrev f27r1 : Pc := .reg f27o1 [2] []
abbrev f27b : Pc := (.seq f27r0 (.seq f27r1 .ret))
abbrev f27 : Pfn := ⟨1, 20, [.tmp 2], f27b⟩
def f27K : Array (List Nat) := #[[0], [2]]
def f27H : Array (List Nat) := #[[], []]
def f27A : Ann := ⟨fun r => f27K.getD r [], fun r => f27H.getD r [], fun r i => ([] : List (Nat × Nat)).contains (r, i)⟩
theorem f27C : compF Go.Proofs.Try.prog f27A 27 = some f27 := by kernel_rfl

/-- switchboard/switchboardref06.Sum -/
abbrev f28o0 : List (Nat × Pop) := [
  (0, ⟨(some 2), .mv (.c (.t (.i .i64 0))), none⟩)]
abbrev f28r0 : Pc := .reg f28o0 [0] []
abbrev f28o1 : List (Nat × Pop) := [
  (0, ⟨(some 3), .mv (.c (.t (.i .i64 4294967295))), none⟩)]
abbrev f28r1 : Pc := .reg f28o1 [0, 3] []
abbrev f28o2 : List (Nat × Pop) := [
  (0, ⟨(some 4), .mv (.c (.t (.i .i64 0))), none⟩)]
abbrev f28r2 : Pc := .reg f28o2 [0, 3, 4] []
abbrev f28o3 : List (Nat × Pop) := [
  (0, ⟨(some 7), .mv (.tmp 4), none⟩),
  (1, ⟨(some 8), .mv (.tmp 0), none⟩),
  (2, ⟨(some 9), .lenS (.tmp 8), none⟩),
  (3, ⟨(some 10), .bin .lss (.tmp 7) (.tmp 9), none⟩)]
abbrev f28r3 : Pc := .reg f28o3 [0, 3, 4, 10] []
abbrev f28o5 : List (Nat × Pop) := [
  (0, ⟨(some 13), .mv (.tmp 3), none⟩),
  (1, ⟨(some 14), .mv (.tmp 0), none⟩),
  (2, ⟨(some 15), .mv (.tmp 4), none⟩),
  (3, ⟨(some 16), .ixs (.tmp 14) (.tmp 15), none⟩),
  (4, ⟨(some 17), .cvi .i64 (.tmp 16), none⟩),
  (5, ⟨(some 18), .call 39 [(.tmp 13), (.tmp 17)], none⟩),
  (6, ⟨(some 3), .mv (.tmp 18), none⟩)]
abbrev f28r5 : Pc := .reg f28o5 [0, 3, 4] []
abbrev f28o6 : List (Nat × Pop) := [
  (0, ⟨(some 5), .mv (.c (.t (.i .i64 0))), none⟩)]
abbrev f28r6 : Pc := .reg f28o6 [0, 3, 4, 5] []
abbrev f28o7 : List (Nat × Pop) := [
  (0, ⟨(some 19), .mv (.tmp 5), none⟩),
  (1, ⟨(some 20), .bin .lss (.tmp 19) (.c (.t (.i .i64 8))), none⟩)]
abbrev f28r7 : Pc := .reg f28o7 [0, 3, 4, 5, 20] []
abbrev f28o9 : List (Nat × Pop) := [
  (0, ⟨(some 23), .mv (.tmp 3), none⟩),
  (1, ⟨(some 24), .bin .rem (.tmp 23) (.c (.t (.i .i64 2))), none⟩),
  (2, ⟨(some 25), .bin .eql (.tmp 24) (.c (.t (.i .i64 1))), none⟩),
  (3, ⟨(some 6), .mv (.tmp 25), none⟩)]
abbrev f28r9 : Pc := .reg f28o9 [0, 3, 4, 5, 6] []
abbrev f28o10 : List (Nat × Pop) := [
  (0, ⟨(some 26), .mv (.tmp 3), none⟩),
  (1, ⟨(some 27), .bin .quo (.tmp 26) (.c (.t (.i .i64 2))), none⟩),
  (2, ⟨(some 3), .mv (.tmp 27), none⟩)]
abbrev f28r10 : Pc := .reg f28o10 [0, 3, 4, 5, 6] []
abbrev f28o11 : List (Nat × Pop) := [
  (0, ⟨(some 28), .mv (.tmp 6), none⟩)]
abbrev f28r11 : Pc := .reg f28o11 [0, 3, 4, 5, 28] []
abbrev f28o12 : List (Nat × Pop) := [
  (0, ⟨(some 29), .mv (.tmp 3), none⟩),
  (1, ⟨(some 30), .call 39 [(.tmp 29), (.c (.t (.i .i64 3988292384)))], none⟩),
  (2, ⟨(some 3), .mv (.tmp 30), none⟩)]
abbrev f28r12 : Pc := .reg f28o12 [0, 3, 4, 5] []
abbrev f28o8 : List (Nat × Pop) := [
  (0, ⟨(some 21), .mv (.tmp 5), none⟩),
  (1, ⟨(some 22), .bin .add (.tmp 21) (.c (.t (.i .i64 1))), none⟩),
  (2, ⟨(some 5), .mv (.tmp 22), none⟩)]
abbrev f28r8 : Pc := .reg f28o8 [0, 3, 4, 5] []
def f28l0 : Pc := (.seq (.seq f28r7 (.cond (.tmp 20) .skip (.exit 2))) (.seq (.block 3 (.seq f28r9 (.seq f28r10 (.seq f28r11 (.cond (.tmp 28) f28r12 .skip))))) f28r8))
theorem f28l0e (C : Cfg) (s : St) : evL C f28l0 s = evL C (.seq (.seq f28r7 (.cond (.tmp 20) .skip (.exit 2))) (.seq (.block 3 (.seq f28r9 (.seq f28r10 (.seq f28r11 (.cond (.tmp 28) f28r12 .skip))))) f28r8)) s := rfl
abbrev f28o4 : List (Nat × Pop) := [
  (0, ⟨(some 11), .mv (.tmp 4), none⟩),
  (1, ⟨(some 12), .bin .add (.tmp 11) (.c (.t (.i .i64 1))), none⟩),
  (2, ⟨(some 4), .mv (.tmp 12), none⟩)]
abbrev f28r4 : Pc := .reg f28o4 [0, 3, 4] []
def f28l1 : Pc := (.seq (.seq f28r3 (.cond (.tmp 10) .skip (.exit 0))) (.seq (.block 1 (.seq f28r5 (.seq f28r6 (.block 2 (.loop f28l0))))) f28r4))
theorem f28l1e (C : Cfg) (s : St) : evL C f28l1 s = evL C (.seq (.seq f28r3 (.cond (.tmp 10) .skip (.exit 0))) (.seq (.block 1 (.seq f28r5 (.seq f28r6 (.block 2 (.loop f28l0))))) f28r4)) s := rfl
abbrev f28o13 : List (Nat × Pop) := [
  (0, ⟨(some 31), .mv (.tmp 3), none⟩),
  (1, ⟨(some 32), .call 39 [(.tmp 31), (.c (.t (.i .i64 4294967295)))], none⟩),
  (2, ⟨(some 2), .mv (.tmp 32), none⟩)]
abbrev f28r13 : Pc := .reg f28o13 [2] []
abbrev f28b : Pc := (.seq f28r0 (.seq f28r1 (.seq (.seq f28r2 (.block 0 (.loop f28l1))) (.seq f28r13 .ret))))
abbrev f28 : Pfn := ⟨1, 33, [.tmp 2], f28b⟩
def f28K : Array (List Nat) := #[[0], [0, 3], [0, 3, 4], [0, 3, 4, 10], [0, 3, 4], [0, 3, 4], [0, 3, 4, 5], [0, 3, 4, 5, 20], [0, 3, 4, 5], [0, 3, 4, 5, 6], [0, 3, 4, 5, 6], [0, 3, 4, 5, 28], [0, 3, 4, 5], [2]]
def f28H : Array (List Nat) := #[[], [], [], [], [], [], [], [], [], [], [], [], [], []]
def f28A : Ann := ⟨fun r => f28K.getD r [], fun r => f28H.getD r [], fun r i => ([] : List (Nat × Nat)).contains (r, i)⟩
theorem f28C : compF Go.Proofs.Try.prog f28A 28 = some f28 := by kernel_rfl

/-- switchboard/window.Accept -/
abbrev f29o0 : List (Nat × Pop) := [
  (0, ⟨(some 2), .box 38 2 (.tmp 0), none⟩),
  (1, ⟨(some 4), .alloc 38 [(.t (.i .i64 0)), .nl], none⟩),
  (2, ⟨(some 5), .mv (.c (.t (.b false))), none⟩)]
abbrev f29r0 : Pc := .reg f29o0 [1, 2, 4] []
abbrev f29o1 : List (Nat × Pop) := [
  (0, ⟨(some 7), .load true 2 (.tmp 2), none⟩),
  (1, ⟨(some 8), .call 40 [(.tmp 7)], none⟩),
  (2, ⟨(some 9), .un .not (.tmp 8), none⟩),
  (3, ⟨(some 10), .mv (.tmp 9), none⟩),
  (4, ⟨(some 11), .mv (.tmp 1), (some (10, false))⟩),
  (5, ⟨(some 12), .bin .gtr (.tmp 11) (.c (.t (.i .i64 2147483647))), (some (10, false))⟩),
  (6, ⟨(some 13), .pick (.tmp 10) (.c (.t (.b true))) (.tmp 12), none⟩),
  (7, ⟨(some 14), .mv (.tmp 13), none⟩),
  (8, ⟨(some 15), .mv (.tmp 1), (some (14, false))⟩),
  (9, ⟨(some 16), .fad 0 (.tmp 2), (some (14, false))⟩),
  (10, ⟨(some 17), .load false 1 (.tmp 16), (some (14, false))⟩),
  (11, ⟨(some 18), .bin .lss (.tmp 15) (.tmp 17), (some (14, false))⟩),
  (12, ⟨(some 19), .pick (.tmp 14) (.c (.t (.b true))) (.tmp 18), none⟩),
  (13, ⟨(some 20), .mv (.tmp 19), none⟩),
  (14, ⟨(some 21), .fad 1 (.tmp 2), (some (20, false))⟩),
  (15, ⟨(some 22), .load false 1 (.tmp 21), (some (20, false))⟩),
  (16, ⟨(some 23), .mv (.tmp 1), (some (20, false))⟩),
  (17, ⟨(some 24), .call 41 [(.tmp 22), (.tmp 23)], (some (20, false))⟩),
  (18, ⟨(some 25), .pick (.tmp 20) (.c (.t (.b true))) (.tmp 24), none⟩)]
abbrev f29r1 : Pc := .reg f29o1 [1, 2, 4, 25] []
abbrev f29o2 : List (Nat × Pop) := [
  (0, ⟨(some 26), .load true 2 (.tmp 2), none⟩),
  (1, ⟨none, .store 2 (.tmp 4) (.tmp 26), none⟩),
  (2, ⟨(some 5), .mv (.c (.t (.b false))), none⟩)]
abbrev f29r2 : Pc := .reg f29o2 [4, 5] [2]
abbrev f29o3 : List (Nat × Pop) := [
  (0, ⟨(some 27), .fad 1 (.tmp 2), none⟩),
  (1, ⟨(some 28), .load false 1 (.tmp 27), none⟩),
  (2, ⟨(some 29), .call 42 [(.tmp 28)], none⟩),
  (3, ⟨(some 30), .mv (.tmp 1), none⟩),
  (4, ⟨(some 31), .bslT 1 [(.tmp 30)], none⟩),
  (5, ⟨(some 32), .app 3 1 8 (.tmp 29) (.tmp 31), none⟩),
  (6, ⟨(some 6), .mv (.tmp 32), none⟩)]
abbrev f29r3 : Pc := .reg f29o3 [2, 4, 6] []
abbrev f29o4 : List (Nat × Pop) := [
  (0, ⟨(some 33), .mv (.tmp 6), none⟩),
  (1, ⟨(some 34), .call 43 [(.tmp 33)], none⟩)]
abbrev f29r4 : Pc := .reg f29o4 [2, 4, 6] []
abbrev f29o5 : List (Nat × Pop) := [
  (0, ⟨(some 35), .mv (.tmp 6), none⟩),
  (1, ⟨(some 36), .lenL (.tmp 35), none⟩),
  (2, ⟨(some 37), .bin .gtr (.tmp 36) (.c (.t (.i .i64 32))), none⟩)]
abbrev f29r5 : Pc := .reg f29o5 [2, 4, 6, 37] []
abbrev f29o6 : List (Nat × Pop) := [
  (0, ⟨(some 38), .mv (.tmp 6), none⟩),
  (1, ⟨(some 39), .ixS 1 (.tmp 38) (.c (.t (.i .i64 0))), none⟩),
  (2, ⟨(some 40), .load false 1 (.tmp 39), none⟩),
  (3, ⟨(some 41), .bin .add (.tmp 40) (.c (.t (.i .i64 1))), none⟩),
  (4, ⟨(some 42), .mv (.tmp 6), none⟩),
  (5, ⟨(some 43), .sls 1 (.tmp 42) (some (.c (.t (.i .i64 1)))) none, none⟩),
  (6, ⟨(some 44), .fad 0 (.tmp 2), none⟩),
  (7, ⟨none, .store 1 (.tmp 44) (.tmp 41), none⟩),
  (8, ⟨(some 6), .mv (.tmp 43), none⟩)]
abbrev f29r6 : Pc := .reg f29o6 [2, 4, 6] []
def f29l0 : Pc := (.seq (.seq f29r5 (.cond (.tmp 37) .skip (.exit 0))) (.block 1 f29r6))
theorem f29l0e (C : Cfg) (s : St) : evL C f29l0 s = evL C (.seq (.seq f29r5 (.cond (.tmp 37) .skip (.exit 0))) (.block 1 f29r6)) s := rfl
abbrev f29o7 : List (Nat × Pop) := [
  (0, ⟨(some 45), .mv (.tmp 6), none⟩),
  (1, ⟨(some 46), .lenL (.tmp 45), none⟩),
  (2, ⟨(some 47), .bin .gtr (.tmp 46) (.c (.t (.i .i64 0))), none⟩),
  (3, ⟨(some 48), .mv (.tmp 47), none⟩),
  (4, ⟨(some 49), .mv (.tmp 6), (some (48, true))⟩),
  (5, ⟨(some 50), .ixS 1 (.tmp 49) (.c (.t (.i .i64 0))), (some (48, true))⟩),
  (6, ⟨(some 51), .load false 1 (.tmp 50), (some (48, true))⟩),
  (7, ⟨(some 52), .fad 0 (.tmp 2), (some (48, true))⟩),
  (8, ⟨(some 53), .load false 1 (.tmp 52), (some (48, true))⟩),
  (9, ⟨(some 54), .bin .eql (.tmp 51) (.tmp 53), (some (48, true))⟩),
  (10, ⟨(some 55), .pick (.tmp 48) (.tmp 54) (.c (.t (.b false))), none⟩)]
abbrev f29r7 : Pc := .reg f29o7 [2, 4, 6, 55] []
abbrev f29o8 : List (Nat × Pop) := [
  (0, ⟨(some 56), .fad 0 (.tmp 2), none⟩),
  (1, ⟨(some 57), .load false 1 (.tmp 56), none⟩),
  (2, ⟨(some 58), .bin .add (.tmp 57) (.c (.t (.i .i64 1))), none⟩),
  (3, ⟨(some 59), .mv (.tmp 6), none⟩),
  (4, ⟨(some 60), .sls 1 (.tmp 59) (some (.c (.t (.i .i64 1)))) none, none⟩),
  (5, ⟨(some 61), .fad 0 (.tmp 2), none⟩),
  (6, ⟨none, .store 1 (.tmp 61) (.tmp 58), none⟩),
  (7, ⟨(some 6), .mv (.tmp 60), none⟩)]
abbrev f29r8 : Pc := .reg f29o8 [2, 4, 6] []
def f29l1 : Pc := (.seq (.seq f29r7 (.cond (.tmp 55) .skip (.exit 2))) (.block 3 f29r8))
theorem f29l1e (C : Cfg) (s : St) : evL C f29l1 s = evL C (.seq (.seq f29r7 (.cond (.tmp 55) .skip (.exit 2))) (.block 3 f29r8)) s := rfl
abbrev f29o9 : List (Nat × Pop) := [
  (0, ⟨(some 62), .mv (.tmp 6), none⟩),
  (1, ⟨(some 63), .call 42 [(.tmp 62)], none⟩),
  (2, ⟨(some 64), .fad 1 (.tmp 2), none⟩),
  (3, ⟨none, .store 1 (.tmp 64) (.tmp 63), none⟩)]
abbrev f29r9 : Pc := .reg f29o9 [2, 4] [29, 32]
abbrev f29o10 : List (Nat × Pop) := [
  (0, ⟨(some 65), .load true 2 (.tmp 2), none⟩),
  (1, ⟨none, .store 2 (.tmp 4) (.tmp 65), none⟩),
  (2, ⟨(some 5), .mv (.c (.t (.b true))), none⟩)]
abbrev f29r10 : Pc := .reg f29o10 [4, 5] [2]
abbrev f29b : Pc := (.seq f29r0 (.seq (.seq f29r1 (.cond (.tmp 25) (.seq f29r2 .ret) .skip)) (.seq f29r3 (.seq f29r4 (.seq (.block 0 (.loop f29l0)) (.seq (.block 2 (.loop f29l1)) (.seq f29r9 (.seq f29r10 .ret))))))))
abbrev f29 : Pfn := ⟨2, 66, [.cell 4 true 2, .tmp 5], f29b⟩
def f29K : Array (List Nat) := #[[1, 2, 4], [1, 2, 4, 25], [4, 5], [2, 4, 6], [2, 4, 6], [2, 4, 6, 37], [2, 4, 6], [2, 4, 6, 55], [2, 4, 6], [2, 4], [4, 5]]
def f29H : Array (List Nat) := #[[], [], [2], [], [], [], [], [], [], [29, 32], [2]]
def f29A : Ann := ⟨fun r => f29K.getD r [], fun r => f29H.getD r [], fun r i => ([] : List (Nat × Nat)).contains (r, i)⟩
theorem f29C : compF Go.Proofs.Try.prog f29A 29 = some f29 := by kernel_rfl

/-- switchboard/switchboardref09.Same -/
abbrev f31o0 : List (Nat × Pop) := [
  (0, ⟨(some 2), .box 44 2 (.tmp 0), none⟩),
  (1, ⟨(some 3), .box 44 2 (.tmp 1), none⟩),
  (2, ⟨(some 4), .mv (.c (.t (.b false))), none⟩)]
abbrev f31r0 : Pc := .reg f31o0 [2, 3] []
abbrev f31o1 : List (Nat × Pop) := [
  (0, ⟨(some 6), .fad 0 (.tmp 2), none⟩),
  (1, ⟨(some 7), .load false 1 (.tmp 6), none⟩),
  (2, ⟨(some 8), .fad 0 (.tmp 3), none⟩),
  (3, ⟨(some 9), .load false 1 (.tmp 8), none⟩),
  (4, ⟨(some 10), .bin .neq (.tmp 7) (.tmp 9), none⟩),
  (5, ⟨(some 11), .mv (.tmp 10), none⟩),
  (6, ⟨(some 12), .fad 1 (.tmp 2), (some (11, false))⟩),
  (7, ⟨(some 13), .load false 1 (.tmp 12), (some (11, false))⟩),
  (8, ⟨(some 14), .lenL (.tmp 13), (some (11, false))⟩),
  (9, ⟨(some 15), .fad 1 (.tmp 3), (some (11, false))⟩),
  (10, ⟨(some 16), .load false 1 (.tmp 15), (some (11, false))⟩),
  (11, ⟨(some 17), .lenL (.tmp 16), (some (11, false))⟩),
  (12, ⟨(some 18), .bin .neq (.tmp 14) (.tmp 17), (some (11, false))⟩),
  (13, ⟨(some 19), .pick (.tmp 11) (.c (.t (.b true))) (.tmp 18), none⟩)]
abbrev f31r1 : Pc := .reg f31o1 [2, 3, 19] []
abbrev f31o2 : List (Nat × Pop) := [
  (0, ⟨(some 4), .mv (.c (.t (.b false))), none⟩)]
abbrev f31r2 : Pc := .reg f31o2 [4] [2, 3]
abbrev f31o3 : List (Nat × Pop) := [
  (0, ⟨(some 5), .mv (.c (.t (.i .i64 0))), none⟩)]
abbrev f31r3 : Pc := .reg f31o3 [2, 3, 5] []
abbrev f31o4 : List (Nat × Pop) := [
  (0, ⟨(some 20), .mv (.tmp 5), none⟩),
  (1, ⟨(some 21), .fad 1 (.tmp 2), none⟩),
  (2, ⟨(some 22), .load false 1 (.tmp 21), none⟩),
  (3, ⟨(some 23), .lenL (.tmp 22), none⟩),
  (4, ⟨(some 24), .bin .lss (.tmp 20) (.tmp 23), none⟩)]
abbrev f31r4 : Pc := .reg f31o4 [2, 3, 5, 24] []
abbrev f31o6 : List (Nat × Pop) := [
  (0, ⟨(some 27), .fad 1 (.tmp 2), none⟩),
  (1, ⟨(some 28), .load false 1 (.tmp 27), none⟩),
  (2, ⟨(some 29), .mv (.tmp 5), none⟩),
  (3, ⟨(some 30), .ixS 1 (.tmp 28) (.tmp 29), none⟩),
  (4, ⟨(some 31), .load false 1 (.tmp 30), none⟩),
  (5, ⟨(some 32), .fad 1 (.tmp 3), none⟩),
  (6, ⟨(some 33), .load false 1 (.tmp 32), none⟩),
  (7, ⟨(some 34), .mv (.tmp 5), none⟩),
  (8, ⟨(some 35), .ixS 1 (.tmp 33) (.tmp 34), none⟩),
  (9, ⟨(some 36), .load false 1 (.tmp 35), none⟩),
  (10, ⟨(some 37), .bin .neq (.tmp 31) (.tmp 36), none⟩)]
abbrev f31r6 : Pc := .reg f31o6 [2, 3, 5, 37] []
abbrev f31o7 : List (Nat × Pop) := [
  (0, ⟨(some 4), .mv (.c (.t (.b false))), none⟩)]
abbrev f31r7 : Pc := .reg f31o7 [4] [2, 3]
abbrev f31o5 : List (Nat × Pop) := [
  (0, ⟨(some 25), .mv (.tmp 5), none⟩),
  (1, ⟨(some 26), .bin .add (.tmp 25) (.c (.t (.i .i64 1))), none⟩),
  (2, ⟨(some 5), .mv (.tmp 26), none⟩)]
abbrev f31r5 : Pc := .reg f31o5 [2, 3, 5] []
def f31l0 : Pc := (.seq (.seq f31r4 (.cond (.tmp 24) .skip (.exit 0))) (.seq (.block 1 (.seq f31r6 (.cond (.tmp 37) (.seq f31r7 .ret) .skip))) f31r5))
theorem f31l0e (C : Cfg) (s : St) : evL C f31l0 s = evL C (.seq (.seq f31r4 (.cond (.tmp 24) .skip (.exit 0))) (.seq (.block 1 (.seq f31r6 (.cond (.tmp 37) (.seq f31r7 .ret) .skip))) f31r5)) s := rfl
abbrev f31o8 : List (Nat × Pop) := [
  (0, ⟨(some 4), .mv (.c (.t (.b true))), none⟩)]
abbrev f31r8 : Pc := .reg f31o8 [4] [2, 3]
abbrev f31b : Pc := (.seq f31r0 (.seq (.seq f31r1 (.cond (.tmp 19) (.seq f31r2 .ret) .skip)) (.seq (.seq f31r3 (.block 0 (.loop f31l0))) (.seq f31r8 .ret))))
abbrev f31 : Pfn := ⟨2, 38, [.tmp 4], f31b⟩
def f31K : Array (List Nat) := #[[2, 3], [2, 3, 19], [4], [2, 3, 5], [2, 3, 5, 24], [2, 3, 5], [2, 3, 5, 37], [4], [4]]
def f31H : Array (List Nat) := #[[], [], [2, 3], [], [], [], [], [2, 3], [2, 3]]
def f31A : Ann := ⟨fun r => f31K.getD r [], fun r => f31H.getD r [], fun r i => ([] : List (Nat × Nat)).contains (r, i)⟩
theorem f31C : compF Go.Proofs.Try.prog f31A 31 = some f31 := by kernel_rfl

/-- switchboard/switchboardref09.Right -/
abbrev f32o0 : List (Nat × Pop) := [
  (0, ⟨(some 1), .box 44 2 (.tmp 0), none⟩),
  (1, ⟨(some 2), .mv (.c (.t (.b false))), none⟩)]
abbrev f32r0 : Pc := .reg f32o0 [1] []
abbrev f32o1 : List (Nat × Pop) := [
  (0, ⟨(some 4), .fad 0 (.tmp 1), none⟩),
  (1, ⟨(some 5), .load false 1 (.tmp 4), none⟩),
  (2, ⟨(some 6), .bin .lss (.tmp 5) (.c (.t (.i .i64 0))), none⟩),
  (3, ⟨(some 7), .mv (.tmp 6), none⟩),
  (4, ⟨(some 8), .fad 0 (.tmp 1), (some (7, false))⟩),
  (5, ⟨(some 9), .load false 1 (.tmp 8), (some (7, false))⟩),
  (6, ⟨(some 10), .bin .gtr (.tmp 9) (.c (.t (.i .i64 2147483647))), (some (7, false))⟩),
  (7, ⟨(some 11), .pick (.tmp 7) (.c (.t (.b true))) (.tmp 10), none⟩),
  (8, ⟨(some 12), .mv (.tmp 11), none⟩),
  (9, ⟨(some 13), .fad 1 (.tmp 1), (some (12, false))⟩),
  (10, ⟨(some 14), .load false 1 (.tmp 13), (some (12, false))⟩),
  (11, ⟨(some 15), .lenL (.tmp 14), (some (12, false))⟩),
  (12, ⟨(some 16), .bin .gtr (.tmp 15) (.c (.t (.i .i64 32))), (some (12, false))⟩),
  (13, ⟨(some 17), .pick (.tmp 12) (.c (.t (.b true))) (.tmp 16), none⟩)]
abbrev f32r1 : Pc := .reg f32o1 [1, 17] []
abbrev f32o2 : List (Nat × Pop) := [
  (0, ⟨(some 2), .mv (.c (.t (.b false))), none⟩)]
abbrev f32r2 : Pc := .reg f32o2 [2] [1]
abbrev f32o3 : List (Nat × Pop) := [
  (0, ⟨(some 3), .mv (.c (.t (.i .i64 0))), none⟩)]
abbrev f32r3 : Pc := .reg f32o3 [1, 3] []
abbrev f32o4 : List (Nat × Pop) := [
  (0, ⟨(some 18), .mv (.tmp 3), none⟩),
  (1, ⟨(some 19), .fad 1 (.tmp 1), none⟩),
  (2, ⟨(some 20), .load false 1 (.tmp 19), none⟩),
  (3, ⟨(some 21), .lenL (.tmp 20), none⟩),
  (4, ⟨(some 22), .bin .lss (.tmp 18) (.tmp 21), none⟩)]
abbrev f32r4 : Pc := .reg f32o4 [1, 3, 22] []
abbrev f32o6 : List (Nat × Pop) := [
  (0, ⟨(some 25), .fad 1 (.tmp 1), none⟩),
  (1, ⟨(some 26), .load false 1 (.tmp 25), none⟩),
  (2, ⟨(some 27), .mv (.tmp 3), none⟩),
  (3, ⟨(some 28), .ixS 1 (.tmp 26) (.tmp 27), none⟩),
  (4, ⟨(some 29), .load false 1 (.tmp 28), none⟩),
  (5, ⟨(some 30), .fad 0 (.tmp 1), none⟩),
  (6, ⟨(some 31), .load false 1 (.tmp 30), none⟩),
  (7, ⟨(some 32), .bin .lss (.tmp 29) (.tmp 31), none⟩),
  (8, ⟨(some 33), .mv (.tmp 32), none⟩),
  (9, ⟨(some 34), .fad 1 (.tmp 1), (some (33, false))⟩),
  (10, ⟨(some 35), .load false 1 (.tmp 34), (some (33, false))⟩),
  (11, ⟨(some 36), .mv (.tmp 3), (some (33, false))⟩),
  (12, ⟨(some 37), .ixS 1 (.tmp 35) (.tmp 36), (some (33, false))⟩),
  (13, ⟨(some 38), .load false 1 (.tmp 37), (some (33, false))⟩),
  (14, ⟨(some 39), .bin .gtr (.tmp 38) (.c (.t (.i .i64 2147483647))), (some (33, false))⟩),
  (15, ⟨(some 40), .pick (.tmp 33) (.c (.t (.b true))) (.tmp 39), none⟩),
  (16, ⟨(some 41), .mv (.tmp 40), none⟩),
  (17, ⟨(some 42), .mv (.tmp 3), (some (41, false))⟩),
  (18, ⟨(some 43), .bin .gtr (.tmp 42) (.c (.t (.i .i64 0))), (some (41, false))⟩),
  (19, ⟨(some 44), .mv (.tmp 43), (some (41, false))⟩),
  (20, ⟨(some 45), .fad 1 (.tmp 1), (some (44, true))⟩),
  (21, ⟨(some 46), .load false 1 (.tmp 45), (some (44, true))⟩),
  (22, ⟨(some 47), .mv (.tmp 3), (some (44, true))⟩),
  (23, ⟨(some 48), .ixS 1 (.tmp 46) (.tmp 47), (some (44, true))⟩),
  (24, ⟨(some 49), .load false 1 (.tmp 48), (some (44, true))⟩),
  (25, ⟨(some 50), .fad 1 (.tmp 1), (some (44, true))⟩),
  (26, ⟨(some 51), .load false 1 (.tmp 50), (some (44, true))⟩),
  (27, ⟨(some 52), .mv (.tmp 3), (some (44, true))⟩),
  (28, ⟨(some 53), .bin .sub (.tmp 52) (.c (.t (.i .i64 1))), (some (44, true))⟩),
  (29, ⟨(some 54), .ixS 1 (.tmp 51) (.tmp 53), (some (44, true))⟩),
  (30, ⟨(some 55), .load false 1 (.tmp 54), (some (44, true))⟩),
  (31, ⟨(some 56), .bin .leq (.tmp 49) (.tmp 55), (some (44, true))⟩),
  (32, ⟨(some 57), .pick (.tmp 44) (.tmp 56) (.c (.t (.b false))), (some (41, false))⟩),
  (33, ⟨(some 58), .pick (.tmp 41) (.c (.t (.b true))) (.tmp 57), none⟩)]
abbrev f32r6 : Pc := .reg f32o6 [1, 3, 58] []
abbrev f32o7 : List (Nat × Pop) := [
  (0, ⟨(some 2), .mv (.c (.t (.b false))), none⟩)]
abbrev f32r7 : Pc := .reg f32o7 [2] [1]
abbrev f32o5 : List (Nat × Pop) := [
  (0, ⟨(some 23), .mv (.tmp 3), none⟩),
  (1, ⟨(some 24), .bin .add (.tmp 23) (.c (.t (.i .i64 1))), none⟩),
  (2, ⟨(some 3), .mv (.tmp 24), none⟩)]
abbrev f32r5 : Pc := .reg f32o5 [1, 3] []
def f32l0 : Pc := (.seq (.seq f32r4 (.cond (.tmp 22) .skip (.exit 0))) (.seq (.block 1 (.seq f32r6 (.cond (.tmp 58) (.seq f32r7 .ret) .skip))) f32r5))
theorem f32l0e (C : Cfg) (s : St) : evL C f32l0 s = evL C (.seq (.seq f32r4 (.cond (.tmp 22) .skip (.exit 0))) (.seq (.block 1 (.seq f32r6 (.cond (.tmp 58) (.seq f32r7 .ret) .skip))) f32r5)) s := rfl
abbrev f32o8 : List (Nat × Pop) := [
  (0, ⟨(some 2), .mv (.c (.t (.b true))), none⟩)]
abbrev f32r8 : Pc := .reg f32o8 [2] [1]
abbrev f32b : Pc := (.seq f32r0 (.seq (.seq f32r1 (.cond (.tmp 17) (.seq f32r2 .ret) .skip)) (.seq (.seq f32r3 (.block 0 (.loop f32l0))) (.seq f32r8 .ret))))
abbrev f32 : Pfn := ⟨1, 59, [.tmp 2], f32b⟩
def f32K : Array (List Nat) := #[[1], [1, 17], [2], [1, 3], [1, 3, 22], [1, 3], [1, 3, 58], [2], [2]]
def f32H : Array (List Nat) := #[[], [], [1], [], [], [], [], [1], [1]]
def f32A : Ann := ⟨fun r => f32K.getD r [], fun r => f32H.getD r [], fun r i => ([] : List (Nat × Nat)).contains (r, i)⟩
theorem f32C : compF Go.Proofs.Try.prog f32A 32 = some f32 := by kernel_rfl

/-- switchboard/link.Push -/
abbrev f35o0 : List (Nat × Pop) := [
  (0, ⟨(some 2), .box 35 2 (.tmp 0), none⟩),
  (1, ⟨(some 4), .alloc 35 [(.t (.i .i64 0)), .nl], none⟩),
  (2, ⟨(some 5), .mv (.c (.t (.i .i64 0))), none⟩),
  (3, ⟨(some 6), .mv (.c (.t (.i .i64 0))), none⟩)]
abbrev f35r0 : Pc := .reg f35o0 [1, 2, 4] []
abbrev f35o1 : List (Nat × Pop) := [
  (0, ⟨(some 9), .load true 2 (.tmp 2), none⟩),
  (1, ⟨(some 10), .call 44 [(.tmp 9)], none⟩),
  (2, ⟨(some 11), .un .not (.tmp 10), none⟩),
  (3, ⟨(some 12), .mv (.tmp 11), none⟩),
  (4, ⟨(some 13), .fad 0 (.tmp 2), (some (12, false))⟩),
  (5, ⟨(some 14), .load false 1 (.tmp 13), (some (12, false))⟩),
  (6, ⟨(some 15), .bin .eql (.tmp 14) (.c (.t (.i .i64 2147483647))), (some (12, false))⟩),
  (7, ⟨(some 16), .pick (.tmp 12) (.c (.t (.b true))) (.tmp 15), none⟩),
  (8, ⟨(some 8), .mv (.tmp 16), none⟩)]
abbrev f35r1 : Pc := .reg f35o1 [1, 2, 4, 8] []
abbrev f35o2 : List (Nat × Pop) := [
  (0, ⟨(some 17), .load true 2 (.tmp 2), none⟩),
  (1, ⟨none, .store 2 (.tmp 4) (.tmp 17), none⟩),
  (2, ⟨(some 5), .mv (.c (.t (.i .i64 0))), none⟩),
  (3, ⟨(some 6), .mv (.c (.t (.i .i64 1))), none⟩)]
abbrev f35r2 : Pc := .reg f35o2 [4, 5, 6] [2]
abbrev f35o3 : List (Nat × Pop) := [
  (0, ⟨(some 19), .fad 1 (.tmp 2), none⟩),
  (1, ⟨(some 20), .load false 1 (.tmp 19), none⟩),
  (2, ⟨(some 21), .lenL (.tmp 20), none⟩),
  (3, ⟨(some 22), .bin .eql (.tmp 21) (.c (.t (.i .i64 64))), none⟩),
  (4, ⟨(some 18), .mv (.tmp 22), none⟩)]
abbrev f35r3 : Pc := .reg f35o3 [1, 2, 4, 18] []
abbrev f35o4 : List (Nat × Pop) := [
  (0, ⟨(some 23), .load true 2 (.tmp 2), none⟩),
  (1, ⟨none, .store 2 (.tmp 4) (.tmp 23), none⟩),
  (2, ⟨(some 5), .mv (.c (.t (.i .i64 0))), none⟩),
  (3, ⟨(some 6), .mv (.c (.t (.i .i64 8))), none⟩)]
abbrev f35r4 : Pc := .reg f35o4 [4, 5, 6] [2]
abbrev f35o5 : List (Nat × Pop) := [
  (0, ⟨(some 24), .fad 0 (.tmp 2), none⟩),
  (1, ⟨(some 25), .load false 1 (.tmp 24), none⟩),
  (2, ⟨(some 7), .mv (.tmp 25), none⟩)]
abbrev f35r5 : Pc := .reg f35o5 [1, 2, 4, 7] []
abbrev f35o6 : List (Nat × Pop) := [
  (0, ⟨(some 26), .mv (.tmp 7), none⟩),
  (1, ⟨(some 27), .bin .add (.tmp 26) (.c (.t (.i .i64 1))), none⟩),
  (2, ⟨(some 28), .fad 1 (.tmp 2), none⟩),
  (3, ⟨(some 29), .load false 1 (.tmp 28), none⟩),
  (4, ⟨(some 30), .call 37 [(.tmp 29)], none⟩),
  (5, ⟨(some 31), .mv (.tmp 7), none⟩),
  (6, ⟨(some 32), .mv (.tmp 1), none⟩),
  (7, ⟨(some 33), .build [(.t (.i .i64 0)), (.t (.s []))] [(0, 1, (.tmp 31)), (1, 1, (.tmp 32))], none⟩),
  (8, ⟨(some 34), .bslT 2 [(.tmp 33)], none⟩),
  (9, ⟨(some 35), .app 80 2 24 (.tmp 30) (.tmp 34), none⟩),
  (10, ⟨(some 36), .build [(.t (.i .i64 0)), .nl] [(0, 1, (.tmp 27)), (1, 1, (.tmp 35))], none⟩),
  (11, ⟨(some 37), .mv (.tmp 7), none⟩),
  (12, ⟨none, .store 2 (.tmp 4) (.tmp 36), none⟩),
  (13, ⟨(some 5), .mv (.tmp 37), none⟩),
  (14, ⟨(some 6), .mv (.c (.t (.i .i64 0))), none⟩)]
abbrev f35r6 : Pc := .reg f35o6 [4, 5, 6] [2]
abbrev f35b : Pc := (.seq f35r0 (.seq (.block 0 (.seq f35r1 (.cond (.tmp 8) (.seq f35r2 .ret) (.seq f35r3 (.cond (.tmp 18) (.seq f35r4 .ret) .skip))))) (.seq f35r5 (.seq f35r6 .ret))))
abbrev f35 : Pfn := ⟨2, 38, [.cell 4 true 2, .tmp 5, .tmp 6], f35b⟩
def f35K : Array (List Nat) := #[[1, 2, 4], [1, 2, 4, 8], [4, 5, 6], [1, 2, 4, 18], [4, 5, 6], [1, 2, 4, 7], [4, 5, 6]]
def f35H : Array (List Nat) := #[[], [], [2], [], [2], [], [2]]
def f35A : Ann := ⟨fun r => f35K.getD r [], fun r => f35H.getD r [], fun r i => ([] : List (Nat × Nat)).contains (r, i)⟩
theorem f35C : compF Go.Proofs.Try.prog f35A 35 = some f35 := by kernel_rfl

/-- slices.DeleteFunc[[]switchboard/link.Frame,switchboard/link.Frame] -/
abbrev f36o0 : List (Nat × Pop) := [
  (0, ⟨(some 4), .nilv 80 2, none⟩)]
abbrev f36r0 : Pc := .reg f36o0 [0, 1] []
abbrev f36o1 : List (Nat × Pop) := [
  (0, ⟨(some 8), .mv (.tmp 0), none⟩),
  (1, ⟨(some 9), .mv (.tmp 1), none⟩),
  (2, ⟨(some 10), .call 45 [(.tmp 8), (.tmp 9)], none⟩),
  (3, ⟨(some 5), .mv (.tmp 10), none⟩)]
abbrev f36r1 : Pc := .reg f36o1 [0, 1, 5] []
abbrev f36o2 : List (Nat × Pop) := [
  (0, ⟨(some 11), .mv (.tmp 5), none⟩),
  (1, ⟨(some 12), .bin .eql (.tmp 11) (.c (.t (.i .i64 (-1)))), none⟩)]
abbrev f36r2 : Pc := .reg f36o2 [0, 1, 5, 12] []
abbrev f36o3 : List (Nat × Pop) := [
  (0, ⟨(some 13), .mv (.tmp 0), none⟩),
  (1, ⟨(some 4), .mv (.tmp 13), none⟩)]
abbrev f36r3 : Pc := .reg f36o3 [4] []
abbrev f36o4 : List (Nat × Pop) := [
  (0, ⟨(some 14), .mv (.tmp 5), none⟩),
  (1, ⟨(some 15), .bin .add (.tmp 14) (.c (.t (.i .i64 1))), none⟩),
  (2, ⟨(some 6), .mv (.tmp 15), none⟩)]
abbrev f36r4 : Pc := .reg f36o4 [0, 1, 5, 6] []
abbrev f36o5 : List (Nat × Pop) := [
  (0, ⟨(some 16), .mv (.tmp 6), none⟩),
  (1, ⟨(some 17), .mv (.tmp 0), none⟩),
  (2, ⟨(some 18), .lenL (.tmp 17), none⟩),
  (3, ⟨(some 19), .bin .lss (.tmp 16) (.tmp 18), none⟩)]
abbrev f36r5 : Pc := .reg f36o5 [0, 1, 5, 6, 19] []
abbrev f36o7 : List (Nat × Pop) := [
  (0, ⟨(some 22), .mv (.tmp 0), none⟩),
  (1, ⟨(some 23), .mv (.tmp 6), none⟩),
  (2, ⟨(some 24), .ixS 2 (.tmp 22) (.tmp 23), none⟩),
  (3, ⟨(some 25), .load true 2 (.tmp 24), none⟩),
  (4, ⟨(some 7), .alloc 80 [(.t (.i .i64 0)), (.t (.s []))], none⟩),
  (5, ⟨none, .store 2 (.tmp 7) (.tmp 25), none⟩)]
abbrev f36r7 : Pc := .reg f36o7 [0, 1, 5, 6, 7] []
abbrev f36o8 : List (Nat × Pop) := [
  (0, ⟨(some 26), .mv (.tmp 1), none⟩),
  (1, ⟨(some 27), .load true 2 (.tmp 7), none⟩),
  (2, ⟨(some 28), .callv (.tmp 26) [(.tmp 27)], none⟩),
  (3, ⟨(some 29), .un .not (.tmp 28), none⟩)]
abbrev f36r8 : Pc := .reg f36o8 [0, 1, 5, 6, 7, 29] []
abbrev f36o9 : List (Nat × Pop) := [
  (0, ⟨(some 30), .mv (.tmp 0), none⟩),
  (1, ⟨(some 31), .mv (.tmp 5), none⟩),
  (2, ⟨(some 32), .load true 2 (.tmp 7), none⟩),
  (3, ⟨(some 33), .ixS 2 (.tmp 30) (.tmp 31), none⟩),
  (4, ⟨none, .store 2 (.tmp 33) (.tmp 32), none⟩)]
abbrev f36r9 : Pc := .reg f36o9 [0, 1, 5, 6] []
abbrev f36o10 : List (Nat × Pop) := [
  (0, ⟨(some 34), .mv (.tmp 5), none⟩),
  (1, ⟨(some 35), .bin .add (.tmp 34) (.c (.t (.i .i64 1))), none⟩),
  (2, ⟨(some 5), .mv (.tmp 35), none⟩)]
abbrev f36r10 : Pc := .reg f36o10 [0, 1, 5, 6] []
abbrev f36o6 : List (Nat × Pop) := [
  (0, ⟨(some 20), .mv (.tmp 6), none⟩),
  (1, ⟨(some 21), .bin .add (.tmp 20) (.c (.t (.i .i64 1))), none⟩),
  (2, ⟨(some 6), .mv (.tmp 21), none⟩)]
abbrev f36r6 : Pc := .reg f36o6 [0, 1, 5, 6] []
def f36l0 : Pc := (.seq (.seq f36r5 (.cond (.tmp 19) .skip (.exit 0))) (.seq (.block 1 (.seq f36r7 (.seq f36r8 (.cond (.tmp 29) (.seq f36r9 f36r10) .skip)))) f36r6))
theorem f36l0e (C : Cfg) (s : St) : evL C f36l0 s = evL C (.seq (.seq f36r5 (.cond (.tmp 19) .skip (.exit 0))) (.seq (.block 1 (.seq f36r7 (.seq f36r8 (.cond (.tmp 29) (.seq f36r9 f36r10) .skip)))) f36r6)) s := rfl
abbrev f36o11 : List (Nat × Pop) := [
  (0, ⟨(some 36), .mv (.tmp 0), none⟩),
  (1, ⟨(some 37), .mv (.tmp 5), none⟩),
  (2, ⟨(some 38), .sls 2 (.tmp 36) (some (.tmp 37)) none, none⟩),
  (3, ⟨none, .clr 2 (.tmp 38), none⟩)]
abbrev f36r11 : Pc := .reg f36o11 [0, 5] []
abbrev f36o12 : List (Nat × Pop) := [
  (0, ⟨(some 39), .mv (.tmp 0), none⟩),
  (1, ⟨(some 40), .mv (.tmp 5), none⟩),
  (2, ⟨(some 41), .sls 2 (.tmp 39) none (some (.tmp 40)), none⟩),
  (3, ⟨(some 4), .mv (.tmp 41), none⟩)]
abbrev f36r12 : Pc := .reg f36o12 [4] []
abbrev f36b : Pc := (.seq f36r0 (.seq f36r1 (.seq (.seq f36r2 (.cond (.tmp 12) (.seq f36r3 .ret) .skip)) (.seq (.seq f36r4 (.block 0 (.loop f36l0))) (.seq f36r11 (.seq f36r12 .ret))))))
abbrev f36 : Pfn := ⟨2, 42, [.tmp 4], f36b⟩
def f36K : Array (List Nat) := #[[0, 1], [0, 1, 5], [0, 1, 5, 12], [4], [0, 1, 5, 6], [0, 1, 5, 6, 19], [0, 1, 5, 6], [0, 1, 5, 6, 7], [0, 1, 5, 6, 7, 29], [0, 1, 5, 6], [0, 1, 5, 6], [0, 5], [4]]
def f36H : Array (List Nat) := #[[], [], [], [], [], [], [], [], [], [], [], [], []]
def f36A : Ann := ⟨fun r => f36K.getD r [], fun r => f36H.getD r [], fun r i => ([] : List (Nat × Nat)).contains (r, i)⟩
theorem f36C : compF Go.Proofs.Try.prog f36A 36 = some f36 := by kernel_rfl

/-- slices.Clone[[]switchboard/link.Frame,switchboard/link.Frame] -/
abbrev f37o0 : List (Nat × Pop) := [
  (0, ⟨(some 2), .nilv 80 2, none⟩)]
abbrev f37r0 : Pc := .reg f37o0 [0] [2, 5, 7]
abbrev f37o1 : List (Nat × Pop) := [
  (0, ⟨(some 3), .mv (.tmp 0), none⟩),
  (1, ⟨(some 4), .isnilS false (.tmp 3), none⟩)]
abbrev f37r1 : Pc := .reg f37o1 [0, 4] []
abbrev f37o2 : List (Nat × Pop) := [
  (0, ⟨(some 2), .nilv 80 2, none⟩)]
abbrev f37r2 : Pc := .reg f37o2 [2] []
abbrev f37o3 : List (Nat × Pop) := [
  (0, ⟨(some 5), .bslO 80 2 [], none⟩),
  (1, ⟨(some 6), .mv (.tmp 0), none⟩),
  (2, ⟨(some 7), .app 80 2 24 (.tmp 5) (.tmp 6), none⟩),
  (3, ⟨(some 2), .mv (.tmp 7), none⟩)]
abbrev f37r3 : Pc := .reg f37o3 [2] []
abbrev f37b : Pc := (.seq f37r0 (.seq (.seq f37r1 (.cond (.tmp 4) (.seq f37r2 .ret) .skip)) (.seq f37r3 .ret)))
abbrev f37 : Pfn := ⟨1, 8, [.tmp 2], f37b⟩
def f37K : Array (List Nat) := #[[0], [0, 4], [2], [2]]
def f37H : Array (List Nat) := #[[2, 5, 7], [], [], []]
def f37A : Ann := ⟨fun r => f37K.getD r [], fun r => f37H.getD r [], fun r i => ([(3, 0)] : List (Nat × Nat)).contains (r, i)⟩
theorem f37C : compF Go.Proofs.Try.prog f37A 37 = some f37 := by kernel_rfl

/-- switchboard/link.Told$1 -/
abbrev f38o0 : List (Nat × Pop) := [
  (0, ⟨(some 2), .box 80 2 (.tmp 0), none⟩),
  (1, ⟨(some 3), .mv (.c (.t (.b false))), none⟩)]
abbrev f38r0 : Pc := .reg f38o0 [1, 2] []
abbrev f38o1 : List (Nat × Pop) := [
  (0, ⟨(some 4), .fad 0 (.tmp 2), none⟩),
  (1, ⟨(some 5), .load false 1 (.tmp 4), none⟩),
  (2, ⟨(some 6), .load false 1 (.tmp 1), none⟩),
  (3, ⟨(some 7), .bin .eql (.tmp 5) (.tmp 6), none⟩),
  (4, ⟨(some 3), .mv (.tmp 7), none⟩)]
abbrev f38r1 : Pc := .reg f38o1 [3] []
abbrev f38b : Pc := (.seq f38r0 (.seq f38r1 .ret))
abbrev f38 : Pfn := ⟨2, 8, [.tmp 3], f38b⟩
def f38K : Array (List Nat) := #[[1, 2], [3]]
def f38H : Array (List Nat) := #[[], []]
def f38A : Ann := ⟨fun r => f38K.getD r [], fun r => f38H.getD r [], fun r i => ([] : List (Nat × Nat)).contains (r, i)⟩
theorem f38C : compF Go.Proofs.Try.prog f38A 38 = some f38 := by kernel_rfl

/-- switchboard/switchboardref06.over -/
abbrev f39o0 : List (Nat × Pop) := [
  (0, ⟨(some 4), .mv (.c (.t (.i .i64 0))), none⟩)]
abbrev f39r0 : Pc := .reg f39o0 [0, 1] []
abbrev f39o1 : List (Nat × Pop) := [
  (0, ⟨(some 5), .mv (.c (.t (.i .i64 0))), none⟩),
  (1, ⟨(some 6), .mv (.c (.t (.i .i64 1))), none⟩)]
abbrev f39r1 : Pc := .reg f39o1 [0, 1, 5, 6] []
abbrev f39o2 : List (Nat × Pop) := [
  (0, ⟨(some 7), .mv (.tmp 0), none⟩),
  (1, ⟨(some 8), .bin .gtr (.tmp 7) (.c (.t (.i .i64 0))), none⟩),
  (2, ⟨(some 9), .mv (.tmp 8), none⟩),
  (3, ⟨(some 10), .mv (.tmp 1), (some (9, false))⟩),
  (4, ⟨(some 11), .bin .gtr (.tmp 10) (.c (.t (.i .i64 0))), (some (9, false))⟩),
  (5, ⟨(some 12), .pick (.tmp 9) (.c (.t (.b true))) (.tmp 11), none⟩)]
abbrev f39r2 : Pc := .reg f39o2 [0, 1, 5, 6, 12] []
abbrev f39o3 : List (Nat × Pop) := [
  (0, ⟨(some 13), .mv (.tmp 0), none⟩),
  (1, ⟨(some 14), .bin .rem (.tmp 13) (.c (.t (.i .i64 2))), none⟩),
  (2, ⟨(some 15), .mv (.tmp 1), none⟩),
  (3, ⟨(some 16), .bin .rem (.tmp 15) (.c (.t (.i .i64 2))), none⟩),
  (4, ⟨(some 17), .bin .neq (.tmp 14) (.tmp 16), none⟩)]
abbrev f39r3 : Pc := .reg f39o3 [0, 1, 5, 6, 17] []
abbrev f39o4 : List (Nat × Pop) := [
  (0, ⟨(some 18), .mv (.tmp 5), none⟩),
  (1, ⟨(some 19), .mv (.tmp 6), none⟩),
  (2, ⟨(some 20), .bin .add (.tmp 18) (.tmp 19), none⟩),
  (3, ⟨(some 5), .mv (.tmp 20), none⟩)]
abbrev f39r4 : Pc := .reg f39o4 [0, 1, 5, 6] []
abbrev f39o5 : List (Nat × Pop) := [
  (0, ⟨(some 21), .mv (.tmp 0), none⟩),
  (1, ⟨(some 22), .bin .quo (.tmp 21) (.c (.t (.i .i64 2))), none⟩),
  (2, ⟨(some 23), .mv (.tmp 1), none⟩),
  (3, ⟨(some 24), .bin .quo (.tmp 23) (.c (.t (.i .i64 2))), none⟩),
  (4, ⟨(some 25), .mv (.tmp 6), none⟩),
  (5, ⟨(some 26), .bin .mul (.c (.t (.i .i64 2))) (.tmp 25), none⟩),
  (6, ⟨(some 0), .mv (.tmp 22), none⟩),
  (7, ⟨(some 1), .mv (.tmp 24), none⟩),
  (8, ⟨(some 6), .mv (.tmp 26), none⟩)]
abbrev f39r5 : Pc := .reg f39o5 [0, 1, 5, 6] []
def f39l0 : Pc := (.seq (.seq f39r2 (.cond (.tmp 12) .skip (.exit 0))) (.block 1 (.seq (.seq f39r3 (.cond (.tmp 17) f39r4 .skip)) f39r5)))
theorem f39l0e (C : Cfg) (s : St) : evL C f39l0 s = evL C (.seq (.seq f39r2 (.cond (.tmp 12) .skip (.exit 0))) (.block 1 (.seq (.seq f39r3 (.cond (.tmp 17) f39r4 .skip)) f39r5))) s := rfl
abbrev f39o6 : List (Nat × Pop) := [
  (0, ⟨(some 27), .mv (.tmp 5), none⟩),
  (1, ⟨(some 4), .mv (.tmp 27), none⟩)]
abbrev f39r6 : Pc := .reg f39o6 [4] []
abbrev f39b : Pc := (.seq f39r0 (.seq f39r1 (.seq (.block 0 (.loop f39l0)) (.seq f39r6 .ret))))
abbrev f39 : Pfn := ⟨2, 28, [.tmp 4], f39b⟩
def f39K : Array (List Nat) := #[[0, 1], [0, 1, 5, 6], [0, 1, 5, 6, 12], [0, 1, 5, 6, 17], [0, 1, 5, 6], [0, 1, 5, 6], [4]]
def f39H : Array (List Nat) := #[[], [], [], [], [], [], []]
def f39A : Ann := ⟨fun r => f39K.getD r [], fun r => f39H.getD r [], fun r i => ([] : List (Nat × Nat)).contains (r, i)⟩
theorem f39C : compF Go.Proofs.Try.prog f39A 39 = some f39 := by kernel_rfl

/-- switchboard/window.Right -/
abbrev f40o0 : List (Nat × Pop) := [
  (0, ⟨(some 1), .box 38 2 (.tmp 0), none⟩),
  (1, ⟨(some 2), .mv (.c (.t (.b false))), none⟩)]
abbrev f40r0 : Pc := .reg f40o0 [1] []
abbrev f40o1 : List (Nat × Pop) := [
  (0, ⟨(some 6), .fad 0 (.tmp 1), none⟩),
  (1, ⟨(some 7), .load false 1 (.tmp 6), none⟩),
  (2, ⟨(some 8), .bin .sub (.tmp 7) (.c (.t (.i .i64 1))), none⟩),
  (3, ⟨(some 3), .mv (.tmp 8), none⟩)]
abbrev f40r1 : Pc := .reg f40o1 [1, 3] []
abbrev f40o2 : List (Nat × Pop) := [
  (0, ⟨(some 9), .fad 1 (.tmp 1), none⟩),
  (1, ⟨(some 10), .load false 1 (.tmp 9), none⟩),
  (2, ⟨(some 11), .lenL (.tmp 10), none⟩),
  (3, ⟨(some 12), .mv (.c (.t (.i .i64 0))), none⟩)]
abbrev f40r2 : Pc := .reg f40o2 [1, 3, 10, 11, 12] []
abbrev f40o3 : List (Nat × Pop) := [
  (0, ⟨(some 13), .bin .lss (.tmp 12) (.tmp 11), none⟩)]
abbrev f40r3 : Pc := .reg f40o3 [1, 3, 10, 11, 12, 13] []
abbrev f40o4 : List (Nat × Pop) := [
  (0, ⟨(some 14), .ixS 1 (.tmp 10) (.tmp 12), none⟩),
  (1, ⟨(some 15), .load false 1 (.tmp 14), none⟩),
  (2, ⟨(some 5), .mv (.tmp 15), none⟩)]
abbrev f40r4 : Pc := .reg f40o4 [1, 3, 5, 10, 11, 12] []
abbrev f40o5 : List (Nat × Pop) := [
  (0, ⟨(some 16), .mv (.tmp 5), none⟩),
  (1, ⟨(some 17), .mv (.tmp 3), none⟩),
  (2, ⟨(some 18), .bin .leq (.tmp 16) (.tmp 17), none⟩),
  (3, ⟨(some 19), .mv (.tmp 18), none⟩),
  (4, ⟨(some 20), .mv (.tmp 5), (some (19, false))⟩),
  (5, ⟨(some 21), .bin .gtr (.tmp 20) (.c (.t (.i .i64 2147483647))), (some (19, false))⟩),
  (6, ⟨(some 22), .pick (.tmp 19) (.c (.t (.b true))) (.tmp 21), none⟩)]
abbrev f40r5 : Pc := .reg f40o5 [1, 5, 10, 11, 12, 22] []
abbrev f40o6 : List (Nat × Pop) := [
  (0, ⟨(some 2), .mv (.c (.t (.b false))), none⟩)]
abbrev f40r6 : Pc := .reg f40o6 [2] [1]
abbrev f40o7 : List (Nat × Pop) := [
  (0, ⟨(some 23), .mv (.tmp 5), none⟩),
  (1, ⟨(some 3), .mv (.tmp 23), none⟩)]
abbrev f40r7 : Pc := .reg f40o7 [1, 3, 10, 11, 12] []
abbrev f40o8 : List (Nat × Pop) := [
  (0, ⟨(some 24), .bin .add (.tmp 12) (.c (.t (.i .i64 1))), none⟩),
  (1, ⟨(some 12), .mv (.tmp 24), none⟩)]
abbrev f40r8 : Pc := .reg f40o8 [1, 3, 10, 11, 12] []
def f40l0 : Pc := (.seq f40r3 (.seq (.cond (.tmp 13) .skip (.exit 0)) (.seq (.block 1 (.seq f40r4 (.seq (.seq f40r5 (.cond (.tmp 22) (.seq f40r6 .ret) .skip)) f40r7))) f40r8)))
theorem f40l0e (C : Cfg) (s : St) : evL C f40l0 s = evL C (.seq f40r3 (.seq (.cond (.tmp 13) .skip (.exit 0)) (.seq (.block 1 (.seq f40r4 (.seq (.seq f40r5 (.cond (.tmp 22) (.seq f40r6 .ret) .skip)) f40r7))) f40r8))) s := rfl
abbrev f40o9 : List (Nat × Pop) := [
  (0, ⟨(some 25), .fad 0 (.tmp 1), none⟩),
  (1, ⟨(some 26), .load false 1 (.tmp 25), none⟩),
  (2, ⟨(some 27), .bin .geq (.tmp 26) (.c (.t (.i .i64 0))), none⟩),
  (3, ⟨(some 28), .mv (.tmp 27), none⟩),
  (4, ⟨(some 29), .fad 0 (.tmp 1), (some (28, true))⟩),
  (5, ⟨(some 30), .load false 1 (.tmp 29), (some (28, true))⟩),
  (6, ⟨(some 31), .bin .leq (.tmp 30) (.c (.t (.i .i64 2147483647))), (some (28, true))⟩),
  (7, ⟨(some 32), .pick (.tmp 28) (.tmp 31) (.c (.t (.b false))), none⟩),
  (8, ⟨(some 33), .mv (.tmp 32), none⟩),
  (9, ⟨(some 34), .fad 1 (.tmp 1), (some (33, true))⟩),
  (10, ⟨(some 35), .load false 1 (.tmp 34), (some (33, true))⟩),
  (11, ⟨(some 36), .lenL (.tmp 35), (some (33, true))⟩),
  (12, ⟨(some 37), .bin .leq (.tmp 36) (.c (.t (.i .i64 32))), (some (33, true))⟩),
  (13, ⟨(some 38), .pick (.tmp 33) (.tmp 37) (.c (.t (.b false))), none⟩),
  (14, ⟨(some 2), .mv (.tmp 38), none⟩)]
abbrev f40r9 : Pc := .reg f40o9 [2] [1]
abbrev f40b : Pc := (.seq f40r0 (.seq f40r1 (.seq (.seq f40r2 (.block 0 (.loop f40l0))) (.seq f40r9 .ret))))
abbrev f40 : Pfn := ⟨1, 39, [.tmp 2], f40b⟩
def f40K : Array (List Nat) := #[[1], [1, 3], [1, 3, 10, 11, 12], [1, 3, 10, 11, 12, 13], [1, 3, 5, 10, 11, 12], [1, 5, 10, 11, 12, 22], [2], [1, 3, 10, 11, 12], [1, 3, 10, 11, 12], [2]]
def f40H : Array (List Nat) := #[[], [], [], [], [], [], [1], [], [], [1]]
def f40A : Ann := ⟨fun r => f40K.getD r [], fun r => f40H.getD r [], fun r i => ([] : List (Nat × Nat)).contains (r, i)⟩
theorem f40C : compF Go.Proofs.Try.prog f40A 40 = some f40 := by kernel_rfl

/-- slices.Contains[[]int,int] -/
abbrev f41o0 : List (Nat × Pop) := [
  (0, ⟨(some 4), .mv (.c (.t (.b false))), none⟩)]
abbrev f41r0 : Pc := .reg f41o0 [0, 1] []
abbrev f41o1 : List (Nat × Pop) := [
  (0, ⟨(some 5), .mv (.tmp 0), none⟩),
  (1, ⟨(some 6), .mv (.tmp 1), none⟩),
  (2, ⟨(some 7), .call 46 [(.tmp 5), (.tmp 6)], none⟩),
  (3, ⟨(some 8), .bin .geq (.tmp 7) (.c (.t (.i .i64 0))), none⟩),
  (4, ⟨(some 4), .mv (.tmp 8), none⟩)]
abbrev f41r1 : Pc := .reg f41o1 [4] []
abbrev f41b : Pc := (.seq f41r0 (.seq f41r1 .ret))
abbrev f41 : Pfn := ⟨2, 9, [.tmp 4], f41b⟩
def f41K : Array (List Nat) := #[[0, 1], [4]]
def f41H : Array (List Nat) := #[[], []]
def f41A : Ann := ⟨fun r => f41K.getD r [], fun r => f41H.getD r [], fun r i => ([] : List (Nat × Nat)).contains (r, i)⟩
theorem f41C : compF Go.Proofs.Try.prog f41A 41 = some f41 := by kernel_rfl

/-- slices.Clone[[]int,int] -/
abbrev f42o0 : List (Nat × Pop) := [
  (0, ⟨(some 2), .nilv 3 1, none⟩)]
abbrev f42r0 : Pc := .reg f42o0 [0] [2, 5, 7]
abbrev f42o1 : List (Nat × Pop) := [
  (0, ⟨(some 3), .mv (.tmp 0), none⟩),
  (1, ⟨(some 4), .isnilS false (.tmp 3), none⟩)]
abbrev f42r1 : Pc := .reg f42o1 [0, 4] []
abbrev f42o2 : List (Nat × Pop) := [
  (0, ⟨(some 2), .nilv 3 1, none⟩)]
abbrev f42r2 : Pc := .reg f42o2 [2] []
abbrev f42o3 : List (Nat × Pop) := [
  (0, ⟨(some 5), .bslO 3 1 [], none⟩),
  (1, ⟨(some 6), .mv (.tmp 0), none⟩),
  (2, ⟨(some 7), .app 3 1 8 (.tmp 5) (.tmp 6), none⟩),
  (3, ⟨(some 2), .mv (.tmp 7), none⟩)]
abbrev f42r3 : Pc := .reg f42o3 [2] []
abbrev f42b : Pc := (.seq f42r0 (.seq (.seq f42r1 (.cond (.tmp 4) (.seq f42r2 .ret) .skip)) (.seq f42r3 .ret)))
abbrev f42 : Pfn := ⟨1, 8, [.tmp 2], f42b⟩
def f42K : Array (List Nat) := #[[0], [0, 4], [2], [2]]
def f42H : Array (List Nat) := #[[2, 5, 7], [], [], []]
def f42A : Ann := ⟨fun r => f42K.getD r [], fun r => f42H.getD r [], fun r i => ([(3, 0)] : List (Nat × Nat)).contains (r, i)⟩
theorem f42C : compF Go.Proofs.Try.prog f42A 42 = some f42 := by kernel_rfl

/-- switchboard/link.Right -/
abbrev f44o0 : List (Nat × Pop) := [
  (0, ⟨(some 1), .box 35 2 (.tmp 0), none⟩),
  (1, ⟨(some 2), .mv (.c (.t (.b false))), none⟩)]
abbrev f44r0 : Pc := .reg f44o0 [1] []
abbrev f44o1 : List (Nat × Pop) := [
  (0, ⟨(some 3), .mv (.c (.t (.i .i64 (-1)))), none⟩)]
abbrev f44r1 : Pc := .reg f44o1 [1, 3] []
abbrev f44o2 : List (Nat × Pop) := [
  (0, ⟨(some 6), .fad 1 (.tmp 1), none⟩),
  (1, ⟨(some 7), .load false 1 (.tmp 6), none⟩),
  (2, ⟨(some 8), .lenL (.tmp 7), none⟩),
  (3, ⟨(some 9), .mv (.c (.t (.i .i64 0))), none⟩)]
abbrev f44r2 : Pc := .reg f44o2 [1, 3, 7, 8, 9] []
abbrev f44o3 : List (Nat × Pop) := [
  (0, ⟨(some 10), .bin .lss (.tmp 9) (.tmp 8), none⟩)]
abbrev f44r3 : Pc := .reg f44o3 [1, 3, 7, 8, 9, 10] []
abbrev f44o4 : List (Nat × Pop) := [
  (0, ⟨(some 11), .ixS 2 (.tmp 7) (.tmp 9), none⟩),
  (1, ⟨(some 12), .load true 2 (.tmp 11), none⟩),
  (2, ⟨(some 5), .alloc 80 [(.t (.i .i64 0)), (.t (.s []))], none⟩),
  (3, ⟨none, .store 2 (.tmp 5) (.tmp 12), none⟩)]
abbrev f44r4 : Pc := .reg f44o4 [1, 3, 5, 7, 8, 9] []
abbrev f44o5 : List (Nat × Pop) := [
  (0, ⟨(some 13), .fad 0 (.tmp 5), none⟩),
  (1, ⟨(some 14), .load false 1 (.tmp 13), none⟩),
  (2, ⟨(some 15), .mv (.tmp 3), none⟩),
  (3, ⟨(some 16), .bin .leq (.tmp 14) (.tmp 15), none⟩),
  (4, ⟨(some 17), .mv (.tmp 16), none⟩),
  (5, ⟨(some 18), .fad 0 (.tmp 5), (some (17, false))⟩),
  (6, ⟨(some 19), .load false 1 (.tmp 18), (some (17, false))⟩),
  (7, ⟨(some 20), .fad 0 (.tmp 1), (some (17, false))⟩),
  (8, ⟨(some 21), .load false 1 (.tmp 20), (some (17, false))⟩),
  (9, ⟨(some 22), .bin .geq (.tmp 19) (.tmp 21), (some (17, false))⟩),
  (10, ⟨(some 23), .pick (.tmp 17) (.c (.t (.b true))) (.tmp 22), none⟩)]
abbrev f44r5 : Pc := .reg f44o5 [1, 5, 7, 8, 9, 23] []
abbrev f44o6 : List (Nat × Pop) := [
  (0, ⟨(some 2), .mv (.c (.t (.b false))), none⟩)]
abbrev f44r6 : Pc := .reg f44o6 [2] [1, 5]
abbrev f44o7 : List (Nat × Pop) := [
  (0, ⟨(some 24), .fad 0 (.tmp 5), none⟩),
  (1, ⟨(some 25), .load false 1 (.tmp 24), none⟩),
  (2, ⟨(some 3), .mv (.tmp 25), none⟩)]
abbrev f44r7 : Pc := .reg f44o7 [1, 3, 7, 8, 9] [5]
abbrev f44o8 : List (Nat × Pop) := [
  (0, ⟨(some 26), .bin .add (.tmp 9) (.c (.t (.i .i64 1))), none⟩),
  (1, ⟨(some 9), .mv (.tmp 26), none⟩)]
abbrev f44r8 : Pc := .reg f44o8 [1, 3, 7, 8, 9] []
def f44l0 : Pc := (.seq f44r3 (.seq (.cond (.tmp 10) .skip (.exit 0)) (.seq (.block 1 (.seq f44r4 (.seq (.seq f44r5 (.cond (.tmp 23) (.seq f44r6 .ret) .skip)) f44r7))) f44r8)))
theorem f44l0e (C : Cfg) (s : St) : evL C f44l0 s = evL C (.seq f44r3 (.seq (.cond (.tmp 10) .skip (.exit 0)) (.seq (.block 1 (.seq f44r4 (.seq (.seq f44r5 (.cond (.tmp 23) (.seq f44r6 .ret) .skip)) f44r7))) f44r8))) s := rfl
abbrev f44o9 : List (Nat × Pop) := [
  (0, ⟨(some 27), .fad 0 (.tmp 1), none⟩),
  (1, ⟨(some 28), .load false 1 (.tmp 27), none⟩),
  (2, ⟨(some 29), .bin .geq (.tmp 28) (.c (.t (.i .i64 0))), none⟩),
  (3, ⟨(some 30), .mv (.tmp 29), none⟩),
  (4, ⟨(some 31), .fad 0 (.tmp 1), (some (30, true))⟩),
  (5, ⟨(some 32), .load false 1 (.tmp 31), (some (30, true))⟩),
  (6, ⟨(some 33), .bin .leq (.tmp 32) (.c (.t (.i .i64 2147483647))), (some (30, true))⟩),
  (7, ⟨(some 34), .pick (.tmp 30) (.tmp 33) (.c (.t (.b false))), none⟩),
  (8, ⟨(some 35), .mv (.tmp 34), none⟩),
  (9, ⟨(some 36), .fad 1 (.tmp 1), (some (35, true))⟩),
  (10, ⟨(some 37), .load false 1 (.tmp 36), (some (35, true))⟩),
  (11, ⟨(some 38), .lenL (.tmp 37), (some (35, true))⟩),
  (12, ⟨(some 39), .bin .leq (.tmp 38) (.c (.t (.i .i64 64))), (some (35, true))⟩),
  (13, ⟨(some 40), .pick (.tmp 35) (.tmp 39) (.c (.t (.b false))), none⟩),
  (14, ⟨(some 2), .mv (.tmp 40), none⟩)]
abbrev f44r9 : Pc := .reg f44o9 [2] [1]
abbrev f44b : Pc := (.seq f44r0 (.seq f44r1 (.seq (.seq f44r2 (.block 0 (.loop f44l0))) (.seq f44r9 .ret))))
abbrev f44 : Pfn := ⟨1, 41, [.tmp 2], f44b⟩
def f44K : Array (List Nat) := #[[1], [1, 3], [1, 3, 7, 8, 9], [1, 3, 7, 8, 9, 10], [1, 3, 5, 7, 8, 9], [1, 5, 7, 8, 9, 23], [2], [1, 3, 7, 8, 9], [1, 3, 7, 8, 9], [2]]
def f44H : Array (List Nat) := #[[], [], [], [], [], [], [1, 5], [5], [], [1]]
def f44A : Ann := ⟨fun r => f44K.getD r [], fun r => f44H.getD r [], fun r i => ([] : List (Nat × Nat)).contains (r, i)⟩
theorem f44C : compF Go.Proofs.Try.prog f44A 44 = some f44 := by kernel_rfl

/-- slices.IndexFunc[[]switchboard/link.Frame,switchboard/link.Frame] -/
abbrev f45o0 : List (Nat × Pop) := [
  (0, ⟨(some 4), .mv (.c (.t (.i .i64 0))), none⟩)]
abbrev f45r0 : Pc := .reg f45o0 [0, 1] []
abbrev f45o1 : List (Nat × Pop) := [
  (0, ⟨(some 6), .mv (.tmp 0), none⟩),
  (1, ⟨(some 7), .lenL (.tmp 6), none⟩),
  (2, ⟨(some 8), .mv (.c (.t (.i .i64 0))), none⟩)]
abbrev f45r1 : Pc := .reg f45o1 [0, 1, 7, 8] []
abbrev f45o2 : List (Nat × Pop) := [
  (0, ⟨(some 9), .bin .lss (.tmp 8) (.tmp 7), none⟩)]
abbrev f45r2 : Pc := .reg f45o2 [0, 1, 7, 8, 9] []
abbrev f45o3 : List (Nat × Pop) := [
  (0, ⟨(some 10), .mv (.tmp 8), none⟩),
  (1, ⟨(some 5), .mv (.tmp 10), none⟩)]
abbrev f45r3 : Pc := .reg f45o3 [0, 1, 5, 7, 8] []
abbrev f45o4 : List (Nat × Pop) := [
  (0, ⟨(some 11), .mv (.tmp 1), none⟩),
  (1, ⟨(some 12), .mv (.tmp 0), none⟩),
  (2, ⟨(some 13), .mv (.tmp 5), none⟩),
  (3, ⟨(some 14), .ixS 2 (.tmp 12) (.tmp 13), none⟩),
  (4, ⟨(some 15), .load true 2 (.tmp 14), none⟩),
  (5, ⟨(some 16), .callv (.tmp 11) [(.tmp 15)], none⟩)]
abbrev f45r4 : Pc := .reg f45o4 [0, 1, 5, 7, 8, 16] []
abbrev f45o5 : List (Nat × Pop) := [
  (0, ⟨(some 17), .mv (.tmp 5), none⟩),
  (1, ⟨(some 4), .mv (.tmp 17), none⟩)]
abbrev f45r5 : Pc := .reg f45o5 [4] []
abbrev f45o6 : List (Nat × Pop) := [
  (0, ⟨(some 18), .bin .add (.tmp 8) (.c (.t (.i .i64 1))), none⟩),
  (1, ⟨(some 8), .mv (.tmp 18), none⟩)]
abbrev f45r6 : Pc := .reg f45o6 [0, 1, 7, 8] []
def f45l0 : Pc := (.seq f45r2 (.seq (.cond (.tmp 9) .skip (.exit 0)) (.seq (.block 1 (.seq f45r3 (.seq f45r4 (.cond (.tmp 16) (.seq f45r5 .ret) .skip)))) f45r6)))
theorem f45l0e (C : Cfg) (s : St) : evL C f45l0 s = evL C (.seq f45r2 (.seq (.cond (.tmp 9) .skip (.exit 0)) (.seq (.block 1 (.seq f45r3 (.seq f45r4 (.cond (.tmp 16) (.seq f45r5 .ret) .skip)))) f45r6))) s := rfl
abbrev f45o7 : List (Nat × Pop) := [
  (0, ⟨(some 4), .mv (.c (.t (.i .i64 (-1)))), none⟩)]
abbrev f45r7 : Pc := .reg f45o7 [4] []
abbrev f45b : Pc := (.seq f45r0 (.seq (.seq f45r1 (.block 0 (.loop f45l0))) (.seq f45r7 .ret)))
abbrev f45 : Pfn := ⟨2, 19, [.tmp 4], f45b⟩
def f45K : Array (List Nat) := #[[0, 1], [0, 1, 7, 8], [0, 1, 7, 8, 9], [0, 1, 5, 7, 8], [0, 1, 5, 7, 8, 16], [4], [0, 1, 7, 8], [4]]
def f45H : Array (List Nat) := #[[], [], [], [], [], [], [], []]
def f45A : Ann := ⟨fun r => f45K.getD r [], fun r => f45H.getD r [], fun r i => ([] : List (Nat × Nat)).contains (r, i)⟩
theorem f45C : compF Go.Proofs.Try.prog f45A 45 = some f45 := by kernel_rfl

/-- slices.Index[[]int,int] -/
abbrev f46o0 : List (Nat × Pop) := [
  (0, ⟨(some 4), .mv (.c (.t (.i .i64 0))), none⟩)]
abbrev f46r0 : Pc := .reg f46o0 [0, 1] []
abbrev f46o1 : List (Nat × Pop) := [
  (0, ⟨(some 6), .mv (.tmp 0), none⟩),
  (1, ⟨(some 7), .lenL (.tmp 6), none⟩),
  (2, ⟨(some 8), .mv (.c (.t (.i .i64 0))), none⟩)]
abbrev f46r1 : Pc := .reg f46o1 [0, 1, 7, 8] []
abbrev f46o2 : List (Nat × Pop) := [
  (0, ⟨(some 9), .bin .lss (.tmp 8) (.tmp 7), none⟩)]
abbrev f46r2 : Pc := .reg f46o2 [0, 1, 7, 8, 9] []
abbrev f46o3 : List (Nat × Pop) := [
  (0, ⟨(some 10), .mv (.tmp 8), none⟩),
  (1, ⟨(some 5), .mv (.tmp 10), none⟩)]
abbrev f46r3 : Pc := .reg f46o3 [0, 1, 5, 7, 8] []
abbrev f46o4 : List (Nat × Pop) := [
  (0, ⟨(some 11), .mv (.tmp 1), none⟩),
  (1, ⟨(some 12), .mv (.tmp 0), none⟩),
  (2, ⟨(some 13), .mv (.tmp 5), none⟩),
  (3, ⟨(some 14), .ixS 1 (.tmp 12) (.tmp 13), none⟩),
  (4, ⟨(some 15), .load false 1 (.tmp 14), none⟩),
  (5, ⟨(some 16), .bin .eql (.tmp 11) (.tmp 15), none⟩)]
abbrev f46r4 : Pc := .reg f46o4 [0, 1, 5, 7, 8, 16] []
abbrev f46o5 : List (Nat × Pop) := [
  (0, ⟨(some 17), .mv (.tmp 5), none⟩),
  (1, ⟨(some 4), .mv (.tmp 17), none⟩)]
abbrev f46r5 : Pc := .reg f46o5 [4] []
abbrev f46o6 : List (Nat × Pop) := [
  (0, ⟨(some 18), .bin .add (.tmp 8) (.c (.t (.i .i64 1))), none⟩),
  (1, ⟨(some 8), .mv (.tmp 18), none⟩)]
abbrev f46r6 : Pc := .reg f46o6 [0, 1, 7, 8] []
def f46l0 : Pc := (.seq f46r2 (.seq (.cond (.tmp 9) .skip (.exit 0)) (.seq (.block 1 (.seq f46r3 (.seq f46r4 (.cond (.tmp 16) (.seq f46r5 .ret) .skip)))) f46r6)))
theorem f46l0e (C : Cfg) (s : St) : evL C f46l0 s = evL C (.seq f46r2 (.seq (.cond (.tmp 9) .skip (.exit 0)) (.seq (.block 1 (.seq f46r3 (.seq f46r4 (.cond (.tmp 16) (.seq f46r5 .ret) .skip)))) f46r6))) s := rfl
abbrev f46o7 : List (Nat × Pop) := [
  (0, ⟨(some 4), .mv (.c (.t (.i .i64 (-1)))), none⟩)]
abbrev f46r7 : Pc := .reg f46o7 [4] []
abbrev f46b : Pc := (.seq f46r0 (.seq (.seq f46r1 (.block 0 (.loop f46l0))) (.seq f46r7 .ret)))
abbrev f46 : Pfn := ⟨2, 19, [.tmp 4], f46b⟩
def f46K : Array (List Nat) := #[[0, 1], [0, 1, 7, 8], [0, 1, 7, 8, 9], [0, 1, 5, 7, 8], [0, 1, 5, 7, 8, 16], [4], [0, 1, 7, 8], [4]]
def f46H : Array (List Nat) := #[[], [], [], [], [], [], [], []]
def f46A : Ann := ⟨fun r => f46K.getD r [], fun r => f46H.getD r [], fun r i => ([] : List (Nat × Nat)).contains (r, i)⟩
theorem f46C : compF Go.Proofs.Try.prog f46A 46 = some f46 := by kernel_rfl


/-- switchboard/switchboardref23.Same -/
abbrev f16o0 : List (Nat × Pop) := [
  (0, ⟨(some 2), .box 46 4 (.tmp 0), none⟩),
  (1, ⟨(some 3), .box 46 4 (.tmp 1), none⟩),
  (2, ⟨(some 4), .mv (.c (.t (.b false))), none⟩)]
abbrev f16r0 : Pc := .reg f16o0 [2, 3] []
abbrev f16o1 : List (Nat × Pop) := [
  (0, ⟨(some 5), .fad 0 (.tmp 2), none⟩),
  (1, ⟨(some 6), .load true 2 (.tmp 5), none⟩),
  (2, ⟨(some 7), .fad 0 (.tmp 3), none⟩),
  (3, ⟨(some 8), .load true 2 (.tmp 7), none⟩),
  (4, ⟨(some 9), .call 30 [(.tmp 6), (.tmp 8)], none⟩),
  (5, ⟨(some 10), .mv (.tmp 9), none⟩),
  (6, ⟨(some 11), .fad 2 (.tmp 2), (some (10, true))⟩),
  (7, ⟨(some 12), .load true 2 (.tmp 11), (some (10, true))⟩),
  (8, ⟨(some 13), .fad 2 (.tmp 3), (some (10, true))⟩),
  (9, ⟨(some 14), .load true 2 (.tmp 13), (some (10, true))⟩),
  (10, ⟨(some 15), .call 31 [(.tmp 12), (.tmp 14)], (some (10, true))⟩),
  (11, ⟨(some 16), .pick (.tmp 10) (.tmp 15) (.c (.t (.b false))), none⟩),
  (12, ⟨(some 4), .mv (.tmp 16), none⟩)]
abbrev f16r1 : Pc := .reg f16o1 [4] [2, 3]
abbrev f16b : Pc := (.seq f16r0 (.seq f16r1 .ret))
abbrev f16 : Pfn := ⟨2, 17, [.tmp 4], f16b⟩
def f16K : Array (List Nat) := #[[2, 3], [4]]
def f16H : Array (List Nat) := #[[], [2, 3]]
def f16A : Ann := ⟨fun r => f16K.getD r [], fun r => f16H.getD r [], fun r i => ([] : List (Nat × Nat)).contains (r, i)⟩
theorem f16C : compF Go.Proofs.Try.prog f16A 16 = some f16 := by kernel_rfl

/-- switchboard/switchboardref10.Same -/
abbrev f30o0 : List (Nat × Pop) := [
  (0, ⟨(some 2), .box 43 2 (.tmp 0), none⟩),
  (1, ⟨(some 3), .box 43 2 (.tmp 1), none⟩),
  (2, ⟨(some 4), .mv (.c (.t (.b false))), none⟩)]
abbrev f30r0 : Pc := .reg f30o0 [2, 3] []
abbrev f30o1 : List (Nat × Pop) := [
  (0, ⟨(some 6), .fad 0 (.tmp 2), none⟩),
  (1, ⟨(some 7), .load false 1 (.tmp 6), none⟩),
  (2, ⟨(some 8), .fad 0 (.tmp 3), none⟩),
  (3, ⟨(some 9), .load false 1 (.tmp 8), none⟩),
  (4, ⟨(some 10), .bin .neq (.tmp 7) (.tmp 9), none⟩),
  (5, ⟨(some 11), .mv (.tmp 10), none⟩),
  (6, ⟨(some 12), .fad 1 (.tmp 2), (some (11, false))⟩),
  (7, ⟨(some 13), .load false 1 (.tmp 12), (some (11, false))⟩),
  (8, ⟨(some 14), .lenL (.tmp 13), (some (11, false))⟩),
  (9, ⟨(some 15), .fad 1 (.tmp 3), (some (11, false))⟩),
  (10, ⟨(some 16), .load false 1 (.tmp 15), (some (11, false))⟩),
  (11, ⟨(some 17), .lenL (.tmp 16), (some (11, false))⟩),
  (12, ⟨(some 18), .bin .neq (.tmp 14) (.tmp 17), (some (11, false))⟩),
  (13, ⟨(some 19), .pick (.tmp 11) (.c (.t (.b true))) (.tmp 18), none⟩)]
abbrev f30r1 : Pc := .reg f30o1 [2, 3, 19] []
abbrev f30o2 : List (Nat × Pop) := [
  (0, ⟨(some 4), .mv (.c (.t (.b false))), none⟩)]
abbrev f30r2 : Pc := .reg f30o2 [4] [2, 3]
abbrev f30o3 : List (Nat × Pop) := [
  (0, ⟨(some 5), .mv (.c (.t (.i .i64 0))), none⟩)]
abbrev f30r3 : Pc := .reg f30o3 [2, 3, 5] []
abbrev f30o4 : List (Nat × Pop) := [
  (0, ⟨(some 20), .mv (.tmp 5), none⟩),
  (1, ⟨(some 21), .fad 1 (.tmp 2), none⟩),
  (2, ⟨(some 22), .load false 1 (.tmp 21), none⟩),
  (3, ⟨(some 23), .lenL (.tmp 22), none⟩),
  (4, ⟨(some 24), .bin .lss (.tmp 20) (.tmp 23), none⟩)]
abbrev f30r4 : Pc := .reg f30o4 [2, 3, 5, 24] []
abbrev f30o6 : List (Nat × Pop) := [
  (0, ⟨(some 27), .fad 1 (.tmp 2), none⟩),
  (1, ⟨(some 28), .load false 1 (.tmp 27), none⟩),
  (2, ⟨(some 29), .mv (.tmp 5), none⟩),
  (3, ⟨(some 30), .ixS 2 (.tmp 28) (.tmp 29), none⟩),
  (4, ⟨(some 31), .load true 2 (.tmp 30), none⟩),
  (5, ⟨(some 32), .fad 1 (.tmp 3), none⟩),
  (6, ⟨(some 33), .load false 1 (.tmp 32), none⟩),
  (7, ⟨(some 34), .mv (.tmp 5), none⟩),
  (8, ⟨(some 35), .ixS 2 (.tmp 33) (.tmp 34), none⟩),
  (9, ⟨(some 36), .load true 2 (.tmp 35), none⟩),
  (10, ⟨(some 37), .beqS [0, 1] true (.tmp 31) (.tmp 36), none⟩)]
abbrev f30r6 : Pc := .reg f30o6 [2, 3, 5, 37] []
abbrev f30o7 : List (Nat × Pop) := [
  (0, ⟨(some 4), .mv (.c (.t (.b false))), none⟩)]
abbrev f30r7 : Pc := .reg f30o7 [4] [2, 3]
abbrev f30o5 : List (Nat × Pop) := [
  (0, ⟨(some 25), .mv (.tmp 5), none⟩),
  (1, ⟨(some 26), .bin .add (.tmp 25) (.c (.t (.i .i64 1))), none⟩),
  (2, ⟨(some 5), .mv (.tmp 26), none⟩)]
abbrev f30r5 : Pc := .reg f30o5 [2, 3, 5] []
def f30l0 : Pc := (.seq (.seq f30r4 (.cond (.tmp 24) .skip (.exit 0))) (.seq (.block 1 (.seq f30r6 (.cond (.tmp 37) (.seq f30r7 .ret) .skip))) f30r5))
theorem f30l0e (C : Cfg) (s : St) : evL C f30l0 s = evL C (.seq (.seq f30r4 (.cond (.tmp 24) .skip (.exit 0))) (.seq (.block 1 (.seq f30r6 (.cond (.tmp 37) (.seq f30r7 .ret) .skip))) f30r5)) s := rfl
abbrev f30o8 : List (Nat × Pop) := [
  (0, ⟨(some 4), .mv (.c (.t (.b true))), none⟩)]
abbrev f30r8 : Pc := .reg f30o8 [4] [2, 3]
abbrev f30b : Pc := (.seq f30r0 (.seq (.seq f30r1 (.cond (.tmp 19) (.seq f30r2 .ret) .skip)) (.seq (.seq f30r3 (.block 0 (.loop f30l0))) (.seq f30r8 .ret))))
abbrev f30 : Pfn := ⟨2, 38, [.tmp 4], f30b⟩
def f30K : Array (List Nat) := #[[2, 3], [2, 3, 19], [4], [2, 3, 5], [2, 3, 5, 24], [2, 3, 5], [2, 3, 5, 37], [4], [4]]
def f30H : Array (List Nat) := #[[], [], [2, 3], [], [], [], [], [2, 3], [2, 3]]
def f30A : Ann := ⟨fun r => f30K.getD r [], fun r => f30H.getD r [], fun r i => ([] : List (Nat × Nat)).contains (r, i)⟩
theorem f30C : compF Go.Proofs.Try.prog f30A 30 = some f30 := by kernel_rfl

end Go.Proofs.Ytfclnkhhabiheaa.Pv
