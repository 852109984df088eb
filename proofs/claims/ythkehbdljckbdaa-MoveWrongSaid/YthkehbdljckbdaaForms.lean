/- The functions' forms, as the pure evaluator takes them; each is what the program's code gives (kernel_rfl). -/
import Derived.Test.YthkehbdljckbdaaPevA
import Derived.Test.YthkehbdljckbdaaPevC
import Derived.Test.YthkehbdljckbdaaProg
import Derived.KernelRfl
namespace Go.Proofs.Ythkehbdljckbdaa.Pv
open Go Go.Pev
/-- switchboard/switchboardlaw17.PlaceTurns -/
abbrev f3o0 : List (Nat × Pop) := [
  (0, ⟨(some 3), .box 24 2 (.tmp 0), none⟩),
  (1, ⟨(some 6), .mv (.c (.t (.b false))), none⟩)]
abbrev f3r0 : Pc := .reg f3o0 [1, 2, 3] []
abbrev f3o1 : List (Nat × Pop) := [
  (0, ⟨(some 16), .fad 1 (.tmp 3), none⟩),
  (1, ⟨(some 17), .load false 1 (.tmp 16), none⟩),
  (2, ⟨(some 18), .call 16 [(.tmp 17)], none⟩),
  (3, ⟨(some 19), .un .not (.tmp 18), none⟩)]
abbrev f3r1 : Pc := .reg f3o1 [1, 2, 3, 19] []
abbrev f3o2 : List (Nat × Pop) := [
  (0, ⟨(some 20), .call 17 [], none⟩),
  (1, ⟨(some 6), .mv (.tmp 20), none⟩)]
abbrev f3r2 : Pc := .reg f3o2 [6] [3]
abbrev f3o3 : List (Nat × Pop) := [
  (0, ⟨(some 21), .load true 2 (.tmp 3), none⟩),
  (1, ⟨(some 7), .alloc 27 [(.t (.i .i64 0)), .nl], none⟩),
  (2, ⟨none, .store 2 (.tmp 7) (.tmp 21), none⟩)]
abbrev f3r3 : Pc := .reg f3o3 [1, 2, 3, 7] []
abbrev f3o4 : List (Nat × Pop) := [
  (0, ⟨(some 23), .load true 2 (.tmp 3), none⟩),
  (1, ⟨(some 24), .mv (.tmp 1), none⟩),
  (2, ⟨(some 25), .mv (.tmp 2), none⟩),
  (3, ⟨(some 26), .call 18 [(.tmp 23), (.tmp 24), (.tmp 25)], none⟩),
  (4, ⟨(some 22), .mv (.tmp 26), none⟩),
  (5, ⟨(some 27), .ext 0 (.tmp 22), none⟩),
  (6, ⟨(some 28), .ext 1 (.tmp 22), none⟩),
  (7, ⟨(some 8), .alloc 24 [(.t (.i .i64 0)), .nl], none⟩),
  (8, ⟨none, .store 2 (.tmp 8) (.tmp 27), none⟩),
  (9, ⟨(some 9), .mv (.tmp 28), none⟩)]
abbrev f3r4 : Pc := .reg f3o4 [1, 2, 3, 7, 8, 9] []
abbrev f3o5 : List (Nat × Pop) := [
  (0, ⟨(some 30), .load true 2 (.tmp 3), none⟩),
  (1, ⟨(some 31), .mv (.tmp 1), none⟩),
  (2, ⟨(some 32), .mv (.tmp 2), none⟩),
  (3, ⟨(some 33), .call 19 [(.tmp 30), (.tmp 31), (.tmp 32)], none⟩),
  (4, ⟨(some 29), .mv (.tmp 33), none⟩),
  (5, ⟨(some 34), .ext 0 (.tmp 29), none⟩),
  (6, ⟨(some 35), .ext 1 (.tmp 29), none⟩),
  (7, ⟨(some 10), .alloc 24 [(.t (.i .i64 0)), .nl], none⟩),
  (8, ⟨none, .store 2 (.tmp 10) (.tmp 34), none⟩),
  (9, ⟨(some 11), .mv (.tmp 35), none⟩)]
abbrev f3r5 : Pc := .reg f3o5 [1, 2, 7, 8, 9, 10, 11] [3]
abbrev f3o6 : List (Nat × Pop) := [
  (0, ⟨(some 37), .load true 2 (.tmp 7), none⟩),
  (1, ⟨(some 38), .mv (.tmp 1), none⟩),
  (2, ⟨(some 39), .mv (.tmp 2), none⟩),
  (3, ⟨(some 40), .call 20 [(.tmp 37), (.tmp 38), (.tmp 39), (.c (.t (.b true)))], none⟩),
  (4, ⟨(some 36), .mv (.tmp 40), none⟩),
  (5, ⟨(some 41), .ext 0 (.tmp 36), none⟩),
  (6, ⟨(some 42), .ext 1 (.tmp 36), none⟩),
  (7, ⟨(some 12), .alloc 27 [(.t (.i .i64 0)), .nl], none⟩),
  (8, ⟨none, .store 2 (.tmp 12) (.tmp 41), none⟩),
  (9, ⟨(some 13), .mv (.tmp 42), none⟩)]
abbrev f3r6 : Pc := .reg f3o6 [1, 2, 7, 8, 9, 10, 11, 12, 13] []
abbrev f3o7 : List (Nat × Pop) := [
  (0, ⟨(some 44), .load true 2 (.tmp 7), none⟩),
  (1, ⟨(some 45), .mv (.tmp 1), none⟩),
  (2, ⟨(some 46), .mv (.tmp 2), none⟩),
  (3, ⟨(some 47), .call 20 [(.tmp 44), (.tmp 45), (.tmp 46), (.c (.t (.b false)))], none⟩),
  (4, ⟨(some 43), .mv (.tmp 47), none⟩),
  (5, ⟨(some 48), .ext 0 (.tmp 43), none⟩),
  (6, ⟨(some 49), .ext 1 (.tmp 43), none⟩),
  (7, ⟨(some 14), .alloc 27 [(.t (.i .i64 0)), .nl], none⟩),
  (8, ⟨none, .store 2 (.tmp 14) (.tmp 48), none⟩),
  (9, ⟨(some 15), .mv (.tmp 49), none⟩)]
abbrev f3r7 : Pc := .reg f3o7 [8, 9, 10, 11, 12, 13, 14, 15] [7]
abbrev f3o8 : List (Nat × Pop) := [
  (0, ⟨(some 50), .load true 2 (.tmp 8), none⟩),
  (1, ⟨(some 51), .load true 2 (.tmp 12), none⟩),
  (2, ⟨(some 52), .call 21 [(.tmp 50), (.tmp 51)], none⟩),
  (3, ⟨(some 53), .mv (.tmp 52), none⟩),
  (4, ⟨(some 54), .mv (.tmp 9), (some (53, true))⟩),
  (5, ⟨(some 55), .mv (.tmp 13), (some (53, true))⟩),
  (6, ⟨(some 56), .bin .eql (.tmp 54) (.tmp 55), (some (53, true))⟩),
  (7, ⟨(some 57), .pick (.tmp 53) (.tmp 56) (.c (.t (.b false))), none⟩),
  (8, ⟨(some 58), .mv (.tmp 57), none⟩),
  (9, ⟨(some 59), .load true 2 (.tmp 10), (some (58, true))⟩),
  (10, ⟨(some 60), .load true 2 (.tmp 14), (some (58, true))⟩),
  (11, ⟨(some 61), .call 21 [(.tmp 59), (.tmp 60)], (some (58, true))⟩),
  (12, ⟨(some 62), .pick (.tmp 58) (.tmp 61) (.c (.t (.b false))), none⟩),
  (13, ⟨(some 63), .mv (.tmp 62), none⟩),
  (14, ⟨(some 64), .mv (.tmp 11), (some (63, true))⟩),
  (15, ⟨(some 65), .mv (.tmp 15), (some (63, true))⟩),
  (16, ⟨(some 66), .bin .eql (.tmp 64) (.tmp 65), (some (63, true))⟩),
  (17, ⟨(some 67), .pick (.tmp 63) (.tmp 66) (.c (.t (.b false))), none⟩),
  (18, ⟨(some 68), .mv (.tmp 67), none⟩),
  (19, ⟨(some 69), .call 17 [], (some (68, true))⟩),
  (20, ⟨(some 70), .pick (.tmp 68) (.tmp 69) (.c (.t (.b false))), none⟩),
  (21, ⟨(some 6), .mv (.tmp 70), none⟩)]
abbrev f3r8 : Pc := .reg f3o8 [6] [8, 10, 12, 14]
abbrev f3b : Pc := (.seq f3r0 (.seq (.seq f3r1 (.cond (.tmp 19) (.seq f3r2 .ret) .skip)) (.seq f3r3 (.seq f3r4 (.seq f3r5 (.seq f3r6 (.seq f3r7 (.seq f3r8 .ret))))))))
abbrev f3 : Pfn := ⟨3, 71, [.tmp 6], f3b⟩
def f3K : Array (List Nat) := #[[1, 2, 3], [1, 2, 3, 19], [6], [1, 2, 3, 7], [1, 2, 3, 7, 8, 9], [1, 2, 7, 8, 9, 10, 11], [1, 2, 7, 8, 9, 10, 11, 12, 13], [8, 9, 10, 11, 12, 13, 14, 15], [6]]
def f3H : Array (List Nat) := #[[], [], [3], [], [], [3], [], [7], [8, 10, 12, 14]]
def f3A : Ann := ⟨fun r => f3K.getD r [], fun r => f3H.getD r [], fun r i => ([] : List (Nat × Nat)).contains (r, i)⟩
theorem f3C : compF Go.Proofs.Try.prog f3A 3 = some f3 := by kernel_rfl

/-- switchboard/switchboardlaw17.PlaceKeeps -/
abbrev f4o0 : List (Nat × Pop) := [
  (0, ⟨(some 2), .mv (.c (.t (.b false))), none⟩)]
abbrev f4r0 : Pc := .reg f4o0 [0] []
abbrev f4o1 : List (Nat × Pop) := [
  (0, ⟨(some 9), .bslT 1 [(.c (.t (.i .i64 1)))], none⟩),
  (1, ⟨(some 10), .bslT 1 [(.c (.t (.i .i64 2))), (.c (.t (.i .i64 3)))], none⟩),
  (2, ⟨(some 11), .bslT 1 [(.tmp 9), (.tmp 10)], none⟩),
  (3, ⟨(some 12), .build [(.t (.i .i64 0)), .nl] [(1, 1, (.tmp 11))], none⟩),
  (4, ⟨(some 3), .alloc 24 [(.t (.i .i64 0)), .nl], none⟩),
  (5, ⟨none, .store 2 (.tmp 3) (.tmp 12), none⟩)]
abbrev f4r1 : Pc := .reg f4o1 [0, 3] []
abbrev f4o2 : List (Nat × Pop) := [
  (0, ⟨(some 4), .mv (.c (.t (.i .i64 0))), none⟩)]
abbrev f4r2 : Pc := .reg f4o2 [0, 3, 4] []
abbrev f4o3 : List (Nat × Pop) := [
  (0, ⟨(some 13), .mv (.tmp 4), none⟩),
  (1, ⟨(some 14), .mv (.tmp 0), none⟩),
  (2, ⟨(some 15), .lenL (.tmp 14), none⟩),
  (3, ⟨(some 16), .bin .lss (.tmp 13) (.tmp 15), none⟩),
  (4, ⟨(some 17), .mv (.tmp 16), none⟩),
  (5, ⟨(some 18), .mv (.tmp 4), (some (17, true))⟩),
  (6, ⟨(some 19), .bin .lss (.tmp 18) (.c (.t (.i .i64 60))), (some (17, true))⟩),
  (7, ⟨(some 20), .pick (.tmp 17) (.tmp 19) (.c (.t (.b false))), none⟩)]
abbrev f4r3 : Pc := .reg f4o3 [0, 3, 4, 20] []
abbrev f4o5 : List (Nat × Pop) := [
  (0, ⟨(some 23), .mv (.tmp 0), none⟩),
  (1, ⟨(some 24), .mv (.tmp 4), none⟩),
  (2, ⟨(some 25), .ixS 1 (.tmp 23) (.tmp 24), none⟩),
  (3, ⟨(some 26), .load false 1 (.tmp 25), none⟩),
  (4, ⟨(some 27), .bin .rem (.tmp 26) (.c (.t (.i .u8 8))), none⟩),
  (5, ⟨(some 28), .cvi .i64 (.tmp 27), none⟩),
  (6, ⟨(some 29), .mv (.tmp 0), none⟩),
  (7, ⟨(some 30), .mv (.tmp 4), none⟩),
  (8, ⟨(some 31), .ixS 1 (.tmp 29) (.tmp 30), none⟩),
  (9, ⟨(some 32), .load false 1 (.tmp 31), none⟩),
  (10, ⟨(some 33), .bin .quo (.tmp 32) (.c (.t (.i .u8 16))), none⟩),
  (11, ⟨(some 34), .bin .rem (.tmp 33) (.c (.t (.i .u8 2))), none⟩),
  (12, ⟨(some 35), .cvi .i64 (.tmp 34), none⟩),
  (13, ⟨(some 5), .mv (.tmp 28), none⟩),
  (14, ⟨(some 6), .mv (.tmp 35), none⟩)]
abbrev f4r5 : Pc := .reg f4o5 [0, 3, 4, 5, 6] []
abbrev f4o6 : List (Nat × Pop) := [
  (0, ⟨(some 36), .load true 2 (.tmp 3), none⟩),
  (1, ⟨(some 7), .alloc 24 [(.t (.i .i64 0)), .nl], none⟩),
  (2, ⟨none, .store 2 (.tmp 7) (.tmp 36), none⟩),
  (3, ⟨(some 8), .mv (.c (.t (.i .i64 0))), none⟩)]
abbrev f4r6 : Pc := .reg f4o6 [0, 3, 4, 5, 6, 7] []
abbrev f4o7 : List (Nat × Pop) := [
  (0, ⟨(some 37), .mv (.tmp 0), none⟩),
  (1, ⟨(some 38), .mv (.tmp 4), none⟩),
  (2, ⟨(some 39), .ixS 1 (.tmp 37) (.tmp 38), none⟩),
  (3, ⟨(some 40), .load false 1 (.tmp 39), none⟩),
  (4, ⟨(some 41), .bin .rem (.tmp 40) (.c (.t (.i .u8 16))), none⟩),
  (5, ⟨(some 42), .bin .lss (.tmp 41) (.c (.t (.i .u8 8))), none⟩)]
abbrev f4r7 : Pc := .reg f4o7 [0, 3, 4, 5, 6, 7, 42] []
abbrev f4o8 : List (Nat × Pop) := [
  (0, ⟨(some 44), .load true 2 (.tmp 3), none⟩),
  (1, ⟨(some 45), .mv (.tmp 6), none⟩),
  (2, ⟨(some 46), .mv (.tmp 5), none⟩),
  (3, ⟨(some 47), .call 18 [(.tmp 44), (.tmp 45), (.tmp 46)], none⟩),
  (4, ⟨(some 43), .mv (.tmp 47), none⟩),
  (5, ⟨(some 48), .ext 0 (.tmp 43), none⟩),
  (6, ⟨(some 49), .ext 1 (.tmp 43), none⟩),
  (7, ⟨none, .store 2 (.tmp 7) (.tmp 48), none⟩),
  (8, ⟨(some 8), .mv (.tmp 49), none⟩)]
abbrev f4r8 : Pc := .reg f4o8 [0, 3, 4, 5, 6, 7, 8] []
abbrev f4o9 : List (Nat × Pop) := [
  (0, ⟨(some 51), .load true 2 (.tmp 3), none⟩),
  (1, ⟨(some 52), .mv (.tmp 6), none⟩),
  (2, ⟨(some 53), .mv (.tmp 5), none⟩),
  (3, ⟨(some 54), .call 19 [(.tmp 51), (.tmp 52), (.tmp 53)], none⟩),
  (4, ⟨(some 50), .mv (.tmp 54), none⟩),
  (5, ⟨(some 55), .ext 0 (.tmp 50), none⟩),
  (6, ⟨(some 56), .ext 1 (.tmp 50), none⟩),
  (7, ⟨none, .store 2 (.tmp 7) (.tmp 55), none⟩),
  (8, ⟨(some 8), .mv (.tmp 56), none⟩)]
abbrev f4r9 : Pc := .reg f4o9 [0, 3, 4, 5, 6, 7, 8] []
abbrev f4o10 : List (Nat × Pop) := [
  (0, ⟨(some 57), .load true 2 (.tmp 7), none⟩),
  (1, ⟨(some 58), .call 22 [(.tmp 57)], none⟩),
  (2, ⟨(some 59), .un .not (.tmp 58), none⟩),
  (3, ⟨(some 60), .mv (.tmp 59), none⟩),
  (4, ⟨(some 61), .fad 1 (.tmp 7), (some (60, false))⟩),
  (5, ⟨(some 62), .load false 1 (.tmp 61), (some (60, false))⟩),
  (6, ⟨(some 63), .lenL (.tmp 62), (some (60, false))⟩),
  (7, ⟨(some 64), .bin .neq (.tmp 63) (.c (.t (.i .i64 2))), (some (60, false))⟩),
  (8, ⟨(some 65), .pick (.tmp 60) (.c (.t (.b true))) (.tmp 64), none⟩),
  (9, ⟨(some 66), .mv (.tmp 65), none⟩),
  (10, ⟨(some 67), .mv (.tmp 8), (some (66, false))⟩),
  (11, ⟨(some 68), .bin .eql (.tmp 67) (.c (.t (.i .i64 0))), (some (66, false))⟩),
  (12, ⟨(some 69), .mv (.tmp 68), (some (66, false))⟩),
  (13, ⟨(some 70), .fad 0 (.tmp 7), (some (69, true))⟩),
  (14, ⟨(some 71), .load false 1 (.tmp 70), (some (69, true))⟩),
  (15, ⟨(some 72), .fad 0 (.tmp 3), (some (69, true))⟩),
  (16, ⟨(some 73), .load false 1 (.tmp 72), (some (69, true))⟩),
  (17, ⟨(some 74), .bin .add (.tmp 73) (.c (.t (.i .i64 1))), (some (69, true))⟩),
  (18, ⟨(some 75), .bin .neq (.tmp 71) (.tmp 74), (some (69, true))⟩),
  (19, ⟨(some 76), .pick (.tmp 69) (.tmp 75) (.c (.t (.b false))), (some (66, false))⟩),
  (20, ⟨(some 77), .pick (.tmp 66) (.c (.t (.b true))) (.tmp 76), none⟩),
  (21, ⟨(some 78), .mv (.tmp 77), none⟩),
  (22, ⟨(some 79), .mv (.tmp 8), (some (78, false))⟩),
  (23, ⟨(some 80), .bin .neq (.tmp 79) (.c (.t (.i .i64 0))), (some (78, false))⟩),
  (24, ⟨(some 81), .mv (.tmp 80), (some (78, false))⟩),
  (25, ⟨(some 82), .fad 0 (.tmp 7), (some (81, true))⟩),
  (26, ⟨(some 83), .load false 1 (.tmp 82), (some (81, true))⟩),
  (27, ⟨(some 84), .fad 0 (.tmp 3), (some (81, true))⟩),
  (28, ⟨(some 85), .load false 1 (.tmp 84), (some (81, true))⟩),
  (29, ⟨(some 86), .bin .neq (.tmp 83) (.tmp 85), (some (81, true))⟩),
  (30, ⟨(some 87), .pick (.tmp 81) (.tmp 86) (.c (.t (.b false))), (some (78, false))⟩),
  (31, ⟨(some 88), .pick (.tmp 78) (.c (.t (.b true))) (.tmp 87), none⟩)]
abbrev f4r10 : Pc := .reg f4o10 [0, 3, 4, 5, 6, 7, 8, 88] []
abbrev f4o11 : List (Nat × Pop) := [
  (0, ⟨(some 2), .mv (.c (.t (.b false))), none⟩)]
abbrev f4r11 : Pc := .reg f4o11 [2] [3, 7]
abbrev f4o12 : List (Nat × Pop) := [
  (0, ⟨(some 89), .mv (.tmp 8), none⟩),
  (1, ⟨(some 90), .bin .eql (.tmp 89) (.c (.t (.i .i64 0))), none⟩),
  (2, ⟨(some 91), .mv (.tmp 90), none⟩),
  (3, ⟨(some 92), .load true 2 (.tmp 7), (some (91, true))⟩),
  (4, ⟨(some 93), .mv (.tmp 6), (some (91, true))⟩),
  (5, ⟨(some 94), .mv (.tmp 5), (some (91, true))⟩),
  (6, ⟨(some 95), .callq 23 [(.tmp 92), (.tmp 93), (.tmp 94)], (some (91, true))⟩),
  (7, ⟨(some 96), .mv (.tmp 0), (some (91, true))⟩),
  (8, ⟨(some 97), .mv (.tmp 4), (some (91, true))⟩),
  (9, ⟨(some 98), .ixS 1 (.tmp 96) (.tmp 97), (some (91, true))⟩),
  (10, ⟨(some 99), .load false 1 (.tmp 98), (some (91, true))⟩),
  (11, ⟨(some 100), .bin .rem (.tmp 99) (.c (.t (.i .u8 16))), (some (91, true))⟩),
  (12, ⟨(some 101), .bin .lss (.tmp 100) (.c (.t (.i .u8 8))), (some (91, true))⟩),
  (13, ⟨(some 102), .beq true (.tmp 95) (.tmp 101), (some (91, true))⟩),
  (14, ⟨(some 103), .pick (.tmp 91) (.tmp 102) (.c (.t (.b false))), none⟩)]
abbrev f4r12 : Pc := .reg f4o12 [0, 3, 4, 7, 103] []
abbrev f4o13 : List (Nat × Pop) := [
  (0, ⟨(some 2), .mv (.c (.t (.b false))), none⟩)]
abbrev f4r13 : Pc := .reg f4o13 [2] [3, 7]
abbrev f4o14 : List (Nat × Pop) := [
  (0, ⟨(some 104), .load true 2 (.tmp 7), none⟩),
  (1, ⟨none, .store 2 (.tmp 3) (.tmp 104), none⟩)]
abbrev f4r14 : Pc := .reg f4o14 [0, 3, 4] [7]
abbrev f4o4 : List (Nat × Pop) := [
  (0, ⟨(some 21), .mv (.tmp 4), none⟩),
  (1, ⟨(some 22), .bin .add (.tmp 21) (.c (.t (.i .i64 1))), none⟩),
  (2, ⟨(some 4), .mv (.tmp 22), none⟩)]
abbrev f4r4 : Pc := .reg f4o4 [0, 3, 4] []
def f4l0 : Pc := (.seq (.seq f4r3 (.cond (.tmp 20) .skip (.exit 0))) (.seq (.block 1 (.seq f4r5 (.seq f4r6 (.seq (.seq f4r7 (.cond (.tmp 42) f4r8 f4r9)) (.seq (.seq f4r10 (.cond (.tmp 88) (.seq f4r11 .ret) .skip)) (.seq (.seq f4r12 (.cond (.tmp 103) (.seq f4r13 .ret) .skip)) f4r14)))))) f4r4))
theorem f4l0e (C : Cfg) (s : St) : evL C f4l0 s = evL C (.seq (.seq f4r3 (.cond (.tmp 20) .skip (.exit 0))) (.seq (.block 1 (.seq f4r5 (.seq f4r6 (.seq (.seq f4r7 (.cond (.tmp 42) f4r8 f4r9)) (.seq (.seq f4r10 (.cond (.tmp 88) (.seq f4r11 .ret) .skip)) (.seq (.seq f4r12 (.cond (.tmp 103) (.seq f4r13 .ret) .skip)) f4r14)))))) f4r4)) s := rfl
abbrev f4o15 : List (Nat × Pop) := [
  (0, ⟨(some 105), .call 17 [], none⟩),
  (1, ⟨(some 2), .mv (.tmp 105), none⟩)]
abbrev f4r15 : Pc := .reg f4o15 [2] [3]
abbrev f4b : Pc := (.seq f4r0 (.seq f4r1 (.seq (.seq f4r2 (.block 0 (.loop f4l0))) (.seq f4r15 .ret))))
abbrev f4 : Pfn := ⟨1, 106, [.tmp 2], f4b⟩
def f4K : Array (List Nat) := #[[0], [0, 3], [0, 3, 4], [0, 3, 4, 20], [0, 3, 4], [0, 3, 4, 5, 6], [0, 3, 4, 5, 6, 7], [0, 3, 4, 5, 6, 7, 42], [0, 3, 4, 5, 6, 7, 8], [0, 3, 4, 5, 6, 7, 8], [0, 3, 4, 5, 6, 7, 8, 88], [2], [0, 3, 4, 7, 103], [2], [0, 3, 4], [2]]
def f4H : Array (List Nat) := #[[], [], [], [], [], [], [], [], [], [], [], [3, 7], [], [3, 7], [7], [3]]
def f4A : Ann := ⟨fun r => f4K.getD r [], fun r => f4H.getD r [], fun r i => ([] : List (Nat × Nat)).contains (r, i)⟩
theorem f4C : compF Go.Proofs.Try.prog f4A 4 = some f4 := by kernel_rfl

/-- switchboard/switchboardlaw17.PlaceBack -/
abbrev f5o0 : List (Nat × Pop) := [
  (0, ⟨(some 3), .box 24 2 (.tmp 0), none⟩),
  (1, ⟨(some 6), .mv (.c (.t (.b false))), none⟩)]
abbrev f5r0 : Pc := .reg f5o0 [1, 2, 3] []
abbrev f5o1 : List (Nat × Pop) := [
  (0, ⟨(some 11), .fad 1 (.tmp 3), none⟩),
  (1, ⟨(some 12), .load false 1 (.tmp 11), none⟩),
  (2, ⟨(some 13), .call 16 [(.tmp 12)], none⟩),
  (3, ⟨(some 14), .un .not (.tmp 13), none⟩),
  (4, ⟨(some 15), .mv (.tmp 14), none⟩),
  (5, ⟨(some 16), .fad 0 (.tmp 3), (some (15, false))⟩),
  (6, ⟨(some 17), .load false 1 (.tmp 16), (some (15, false))⟩),
  (7, ⟨(some 18), .bin .gtr (.tmp 17) (.c (.t (.i .i64 1073741824))), (some (15, false))⟩),
  (8, ⟨(some 19), .pick (.tmp 15) (.c (.t (.b true))) (.tmp 18), none⟩)]
abbrev f5r1 : Pc := .reg f5o1 [1, 2, 3, 19] []
abbrev f5o2 : List (Nat × Pop) := [
  (0, ⟨(some 20), .call 17 [], none⟩),
  (1, ⟨(some 6), .mv (.tmp 20), none⟩)]
abbrev f5r2 : Pc := .reg f5o2 [6] [3]
abbrev f5o3 : List (Nat × Pop) := [
  (0, ⟨(some 22), .load true 2 (.tmp 3), none⟩),
  (1, ⟨(some 23), .mv (.tmp 1), none⟩),
  (2, ⟨(some 24), .mv (.tmp 2), none⟩),
  (3, ⟨(some 25), .call 18 [(.tmp 22), (.tmp 23), (.tmp 24)], none⟩),
  (4, ⟨(some 21), .mv (.tmp 25), none⟩),
  (5, ⟨(some 26), .ext 0 (.tmp 21), none⟩),
  (6, ⟨(some 27), .ext 1 (.tmp 21), none⟩),
  (7, ⟨(some 7), .alloc 24 [(.t (.i .i64 0)), .nl], none⟩),
  (8, ⟨none, .store 2 (.tmp 7) (.tmp 26), none⟩),
  (9, ⟨(some 8), .mv (.tmp 27), none⟩)]
abbrev f5r3 : Pc := .reg f5o3 [1, 2, 3, 7, 8] []
abbrev f5o4 : List (Nat × Pop) := [
  (0, ⟨(some 29), .load true 2 (.tmp 7), none⟩),
  (1, ⟨(some 30), .mv (.tmp 1), none⟩),
  (2, ⟨(some 31), .mv (.tmp 2), none⟩),
  (3, ⟨(some 32), .call 19 [(.tmp 29), (.tmp 30), (.tmp 31)], none⟩),
  (4, ⟨(some 28), .mv (.tmp 32), none⟩),
  (5, ⟨(some 33), .ext 0 (.tmp 28), none⟩),
  (6, ⟨(some 34), .ext 1 (.tmp 28), none⟩),
  (7, ⟨(some 9), .alloc 24 [(.t (.i .i64 0)), .nl], none⟩),
  (8, ⟨none, .store 2 (.tmp 9) (.tmp 33), none⟩),
  (9, ⟨(some 10), .mv (.tmp 34), none⟩)]
abbrev f5r4 : Pc := .reg f5o4 [3, 7, 8, 9, 10] []
abbrev f5o5 : List (Nat × Pop) := [
  (0, ⟨(some 35), .mv (.tmp 8), none⟩),
  (1, ⟨(some 36), .bin .neq (.tmp 35) (.c (.t (.i .i64 0))), none⟩)]
abbrev f5r5 : Pc := .reg f5o5 [3, 7, 9, 10, 36] []
abbrev f5o6 : List (Nat × Pop) := [
  (0, ⟨(some 37), .fad 0 (.tmp 7), none⟩),
  (1, ⟨(some 38), .load false 1 (.tmp 37), none⟩),
  (2, ⟨(some 39), .fad 0 (.tmp 3), none⟩),
  (3, ⟨(some 40), .load false 1 (.tmp 39), none⟩),
  (4, ⟨(some 41), .bin .eql (.tmp 38) (.tmp 40), none⟩),
  (5, ⟨(some 42), .mv (.tmp 41), none⟩),
  (6, ⟨(some 43), .call 17 [], (some (42, true))⟩),
  (7, ⟨(some 44), .pick (.tmp 42) (.tmp 43) (.c (.t (.b false))), none⟩),
  (8, ⟨(some 6), .mv (.tmp 44), none⟩)]
abbrev f5r6 : Pc := .reg f5o6 [6] [3, 7, 9]
abbrev f5o7 : List (Nat × Pop) := [
  (0, ⟨(some 45), .mv (.tmp 10), none⟩),
  (1, ⟨(some 46), .bin .eql (.tmp 45) (.c (.t (.i .i64 0))), none⟩),
  (2, ⟨(some 47), .mv (.tmp 46), none⟩),
  (3, ⟨(some 48), .fad 0 (.tmp 9), (some (47, true))⟩),
  (4, ⟨(some 49), .load false 1 (.tmp 48), (some (47, true))⟩),
  (5, ⟨(some 50), .fad 0 (.tmp 3), (some (47, true))⟩),
  (6, ⟨(some 51), .load false 1 (.tmp 50), (some (47, true))⟩),
  (7, ⟨(some 52), .bin .add (.tmp 51) (.c (.t (.i .i64 2))), (some (47, true))⟩),
  (8, ⟨(some 53), .bin .eql (.tmp 49) (.tmp 52), (some (47, true))⟩),
  (9, ⟨(some 54), .pick (.tmp 47) (.tmp 53) (.c (.t (.b false))), none⟩),
  (10, ⟨(some 55), .mv (.tmp 54), none⟩),
  (11, ⟨(some 56), .fad 1 (.tmp 9), (some (55, true))⟩),
  (12, ⟨(some 57), .load false 1 (.tmp 56), (some (55, true))⟩),
  (13, ⟨(some 58), .fad 1 (.tmp 3), (some (55, true))⟩),
  (14, ⟨(some 59), .load false 1 (.tmp 58), (some (55, true))⟩),
  (15, ⟨(some 60), .call 24 [(.tmp 57), (.tmp 59)], (some (55, true))⟩),
  (16, ⟨(some 61), .pick (.tmp 55) (.tmp 60) (.c (.t (.b false))), none⟩),
  (17, ⟨(some 62), .mv (.tmp 61), none⟩),
  (18, ⟨(some 63), .call 17 [], (some (62, true))⟩),
  (19, ⟨(some 64), .pick (.tmp 62) (.tmp 63) (.c (.t (.b false))), none⟩),
  (20, ⟨(some 6), .mv (.tmp 64), none⟩)]
abbrev f5r7 : Pc := .reg f5o7 [6] [3, 7, 9]
abbrev f5b : Pc := (.seq f5r0 (.seq (.seq f5r1 (.cond (.tmp 19) (.seq f5r2 .ret) .skip)) (.seq f5r3 (.seq f5r4 (.seq (.seq f5r5 (.cond (.tmp 36) (.seq f5r6 .ret) .skip)) (.seq f5r7 .ret))))))
abbrev f5 : Pfn := ⟨3, 65, [.tmp 6], f5b⟩
def f5K : Array (List Nat) := #[[1, 2, 3], [1, 2, 3, 19], [6], [1, 2, 3, 7, 8], [3, 7, 8, 9, 10], [3, 7, 9, 10, 36], [6], [6]]
def f5H : Array (List Nat) := #[[], [], [3], [], [], [], [3, 7, 9], [3, 7, 9]]
def f5A : Ann := ⟨fun r => f5K.getD r [], fun r => f5H.getD r [], fun r i => ([] : List (Nat × Nat)).contains (r, i)⟩
theorem f5C : compF Go.Proofs.Try.prog f5A 5 = some f5 := by kernel_rfl

/-- switchboard/switchboardlaw17.PlaceOthers -/
abbrev f6o0 : List (Nat × Pop) := [
  (0, ⟨(some 3), .box 24 2 (.tmp 0), none⟩),
  (1, ⟨(some 6), .mv (.c (.t (.b false))), none⟩)]
abbrev f6r0 : Pc := .reg f6o0 [1, 2, 3] []
abbrev f6o1 : List (Nat × Pop) := [
  (0, ⟨(some 13), .fad 1 (.tmp 3), none⟩),
  (1, ⟨(some 14), .load false 1 (.tmp 13), none⟩),
  (2, ⟨(some 15), .call 16 [(.tmp 14)], none⟩),
  (3, ⟨(some 16), .un .not (.tmp 15), none⟩)]
abbrev f6r1 : Pc := .reg f6o1 [1, 2, 3, 16] []
abbrev f6o2 : List (Nat × Pop) := [
  (0, ⟨(some 17), .call 17 [], none⟩),
  (1, ⟨(some 6), .mv (.tmp 17), none⟩)]
abbrev f6r2 : Pc := .reg f6o2 [6] [3]
abbrev f6o3 : List (Nat × Pop) := [
  (0, ⟨(some 19), .load true 2 (.tmp 3), none⟩),
  (1, ⟨(some 20), .mv (.tmp 1), none⟩),
  (2, ⟨(some 21), .mv (.tmp 2), none⟩),
  (3, ⟨(some 22), .call 18 [(.tmp 19), (.tmp 20), (.tmp 21)], none⟩),
  (4, ⟨(some 18), .mv (.tmp 22), none⟩),
  (5, ⟨(some 23), .ext 0 (.tmp 18), none⟩),
  (6, ⟨(some 24), .ext 1 (.tmp 18), none⟩),
  (7, ⟨(some 7), .alloc 24 [(.t (.i .i64 0)), .nl], none⟩),
  (8, ⟨none, .store 2 (.tmp 7) (.tmp 23), none⟩),
  (9, ⟨(some 8), .mv (.tmp 24), none⟩)]
abbrev f6r3 : Pc := .reg f6o3 [1, 2, 3, 7, 8] []
abbrev f6o4 : List (Nat × Pop) := [
  (0, ⟨(some 26), .load true 2 (.tmp 3), none⟩),
  (1, ⟨(some 27), .mv (.tmp 1), none⟩),
  (2, ⟨(some 28), .mv (.tmp 2), none⟩),
  (3, ⟨(some 29), .call 19 [(.tmp 26), (.tmp 27), (.tmp 28)], none⟩),
  (4, ⟨(some 25), .mv (.tmp 29), none⟩),
  (5, ⟨(some 30), .ext 0 (.tmp 25), none⟩),
  (6, ⟨(some 31), .ext 1 (.tmp 25), none⟩),
  (7, ⟨(some 9), .alloc 24 [(.t (.i .i64 0)), .nl], none⟩),
  (8, ⟨none, .store 2 (.tmp 9) (.tmp 30), none⟩),
  (9, ⟨(some 10), .mv (.tmp 31), none⟩)]
abbrev f6r4 : Pc := .reg f6o4 [1, 2, 3, 7, 8, 9, 10] []
abbrev f6o5 : List (Nat × Pop) := [
  (0, ⟨(some 32), .fad 1 (.tmp 7), none⟩),
  (1, ⟨(some 33), .load false 1 (.tmp 32), none⟩),
  (2, ⟨(some 34), .lenL (.tmp 33), none⟩),
  (3, ⟨(some 35), .fad 1 (.tmp 3), none⟩),
  (4, ⟨(some 36), .load false 1 (.tmp 35), none⟩),
  (5, ⟨(some 37), .lenL (.tmp 36), none⟩),
  (6, ⟨(some 38), .bin .neq (.tmp 34) (.tmp 37), none⟩),
  (7, ⟨(some 39), .mv (.tmp 38), none⟩),
  (8, ⟨(some 40), .fad 1 (.tmp 9), (some (39, false))⟩),
  (9, ⟨(some 41), .load false 1 (.tmp 40), (some (39, false))⟩),
  (10, ⟨(some 42), .lenL (.tmp 41), (some (39, false))⟩),
  (11, ⟨(some 43), .fad 1 (.tmp 3), (some (39, false))⟩),
  (12, ⟨(some 44), .load false 1 (.tmp 43), (some (39, false))⟩),
  (13, ⟨(some 45), .lenL (.tmp 44), (some (39, false))⟩),
  (14, ⟨(some 46), .bin .neq (.tmp 42) (.tmp 45), (some (39, false))⟩),
  (15, ⟨(some 47), .pick (.tmp 39) (.c (.t (.b true))) (.tmp 46), none⟩),
  (16, ⟨(some 48), .mv (.tmp 47), none⟩),
  (17, ⟨(some 49), .mv (.tmp 8), (some (48, false))⟩),
  (18, ⟨(some 50), .bin .eql (.tmp 49) (.c (.t (.i .i64 0))), (some (48, false))⟩),
  (19, ⟨(some 51), .mv (.tmp 50), (some (48, false))⟩),
  (20, ⟨(some 52), .mv (.tmp 10), (some (51, true))⟩),
  (21, ⟨(some 53), .bin .eql (.tmp 52) (.c (.t (.i .i64 0))), (some (51, true))⟩),
  (22, ⟨(some 54), .pick (.tmp 51) (.tmp 53) (.c (.t (.b false))), (some (48, false))⟩),
  (23, ⟨(some 55), .pick (.tmp 48) (.c (.t (.b true))) (.tmp 54), none⟩)]
abbrev f6r5 : Pc := .reg f6o5 [1, 2, 3, 7, 9, 55] []
abbrev f6o6 : List (Nat × Pop) := [
  (0, ⟨(some 6), .mv (.c (.t (.b false))), none⟩)]
abbrev f6r6 : Pc := .reg f6o6 [6] [3, 7, 9]
abbrev f6o7 : List (Nat × Pop) := [
  (0, ⟨(some 56), .fad 1 (.tmp 3), none⟩),
  (1, ⟨(some 57), .load false 1 (.tmp 56), none⟩),
  (2, ⟨(some 58), .lenL (.tmp 57), none⟩),
  (3, ⟨(some 59), .mv (.c (.t (.i .i64 0))), none⟩)]
abbrev f6r7 : Pc := .reg f6o7 [1, 2, 3, 7, 9, 58, 59] []
abbrev f6o8 : List (Nat × Pop) := [
  (0, ⟨(some 60), .bin .lss (.tmp 59) (.tmp 58), none⟩)]
abbrev f6r8 : Pc := .reg f6o8 [1, 2, 3, 7, 9, 58, 59, 60] []
abbrev f6o9 : List (Nat × Pop) := [
  (0, ⟨(some 61), .mv (.tmp 59), none⟩),
  (1, ⟨(some 11), .mv (.tmp 61), none⟩)]
abbrev f6r9 : Pc := .reg f6o9 [1, 2, 3, 7, 9, 11, 58, 59] []
abbrev f6o10 : List (Nat × Pop) := [
  (0, ⟨(some 12), .mv (.c (.t (.i .i64 1))), none⟩)]
abbrev f6r10 : Pc := .reg f6o10 [1, 2, 3, 7, 9, 11, 12, 58, 59] []
abbrev f6o11 : List (Nat × Pop) := [
  (0, ⟨(some 62), .mv (.tmp 12), none⟩),
  (1, ⟨(some 63), .bin .lss (.tmp 62) (.c (.t (.i .i64 5))), none⟩)]
abbrev f6r11 : Pc := .reg f6o11 [1, 2, 3, 7, 9, 11, 12, 58, 59, 63] []
abbrev f6o13 : List (Nat × Pop) := [
  (0, ⟨(some 66), .mv (.tmp 11), none⟩),
  (1, ⟨(some 67), .mv (.tmp 1), none⟩),
  (2, ⟨(some 68), .bin .eql (.tmp 66) (.tmp 67), none⟩),
  (3, ⟨(some 69), .mv (.tmp 68), none⟩),
  (4, ⟨(some 70), .mv (.tmp 12), (some (69, true))⟩),
  (5, ⟨(some 71), .mv (.tmp 2), (some (69, true))⟩),
  (6, ⟨(some 72), .bin .eql (.tmp 70) (.tmp 71), (some (69, true))⟩),
  (7, ⟨(some 73), .pick (.tmp 69) (.tmp 72) (.c (.t (.b false))), none⟩)]
abbrev f6r13 : Pc := .reg f6o13 [1, 2, 3, 7, 9, 11, 12, 58, 59, 73] []
abbrev f6o14 : List (Nat × Pop) := [
  (0, ⟨(some 74), .load true 2 (.tmp 7), none⟩),
  (1, ⟨(some 75), .mv (.tmp 11), none⟩),
  (2, ⟨(some 76), .mv (.tmp 12), none⟩),
  (3, ⟨(some 77), .callq 23 [(.tmp 74), (.tmp 75), (.tmp 76)], none⟩),
  (4, ⟨(some 78), .load true 2 (.tmp 3), none⟩),
  (5, ⟨(some 79), .mv (.tmp 11), none⟩),
  (6, ⟨(some 80), .mv (.tmp 12), none⟩),
  (7, ⟨(some 81), .callq 23 [(.tmp 78), (.tmp 79), (.tmp 80)], none⟩),
  (8, ⟨(some 82), .beq true (.tmp 77) (.tmp 81), none⟩),
  (9, ⟨(some 83), .mv (.tmp 82), none⟩),
  (10, ⟨(some 84), .load true 2 (.tmp 9), (some (83, false))⟩),
  (11, ⟨(some 85), .mv (.tmp 11), (some (83, false))⟩),
  (12, ⟨(some 86), .mv (.tmp 12), (some (83, false))⟩),
  (13, ⟨(some 87), .callq 23 [(.tmp 84), (.tmp 85), (.tmp 86)], (some (83, false))⟩),
  (14, ⟨(some 88), .load true 2 (.tmp 3), (some (83, false))⟩),
  (15, ⟨(some 89), .mv (.tmp 11), (some (83, false))⟩),
  (16, ⟨(some 90), .mv (.tmp 12), (some (83, false))⟩),
  (17, ⟨(some 91), .callq 23 [(.tmp 88), (.tmp 89), (.tmp 90)], (some (83, false))⟩),
  (18, ⟨(some 92), .beq true (.tmp 87) (.tmp 91), (some (83, false))⟩),
  (19, ⟨(some 93), .pick (.tmp 83) (.c (.t (.b true))) (.tmp 92), none⟩)]
abbrev f6r14 : Pc := .reg f6o14 [1, 2, 3, 7, 9, 11, 12, 58, 59, 93] []
abbrev f6o15 : List (Nat × Pop) := [
  (0, ⟨(some 6), .mv (.c (.t (.b false))), none⟩)]
abbrev f6r15 : Pc := .reg f6o15 [6] [3, 7, 9]
abbrev f6o12 : List (Nat × Pop) := [
  (0, ⟨(some 64), .mv (.tmp 12), none⟩),
  (1, ⟨(some 65), .bin .add (.tmp 64) (.c (.t (.i .i64 1))), none⟩),
  (2, ⟨(some 12), .mv (.tmp 65), none⟩)]
abbrev f6r12 : Pc := .reg f6o12 [1, 2, 3, 7, 9, 11, 12, 58, 59] []
def f6l0 : Pc := (.seq (.seq f6r11 (.cond (.tmp 63) .skip (.exit 2))) (.seq (.block 3 (.seq (.seq f6r13 (.cond (.tmp 73) (.exit 3) .skip)) (.seq f6r14 (.cond (.tmp 93) (.seq f6r15 .ret) .skip)))) f6r12))
theorem f6l0e (C : Cfg) (s : St) : evL C f6l0 s = evL C (.seq (.seq f6r11 (.cond (.tmp 63) .skip (.exit 2))) (.seq (.block 3 (.seq (.seq f6r13 (.cond (.tmp 73) (.exit 3) .skip)) (.seq f6r14 (.cond (.tmp 93) (.seq f6r15 .ret) .skip)))) f6r12)) s := rfl
abbrev f6o16 : List (Nat × Pop) := [
  (0, ⟨(some 94), .bin .add (.tmp 59) (.c (.t (.i .i64 1))), none⟩),
  (1, ⟨(some 59), .mv (.tmp 94), none⟩)]
abbrev f6r16 : Pc := .reg f6o16 [1, 2, 3, 7, 9, 58, 59] []
def f6l1 : Pc := (.seq f6r8 (.seq (.cond (.tmp 60) .skip (.exit 0)) (.seq (.block 1 (.seq f6r9 (.seq f6r10 (.block 2 (.loop f6l0))))) f6r16)))
theorem f6l1e (C : Cfg) (s : St) : evL C f6l1 s = evL C (.seq f6r8 (.seq (.cond (.tmp 60) .skip (.exit 0)) (.seq (.block 1 (.seq f6r9 (.seq f6r10 (.block 2 (.loop f6l0))))) f6r16))) s := rfl
abbrev f6o17 : List (Nat × Pop) := [
  (0, ⟨(some 95), .call 17 [], none⟩),
  (1, ⟨(some 6), .mv (.tmp 95), none⟩)]
abbrev f6r17 : Pc := .reg f6o17 [6] [3, 7, 9]
abbrev f6b : Pc := (.seq f6r0 (.seq (.seq f6r1 (.cond (.tmp 16) (.seq f6r2 .ret) .skip)) (.seq f6r3 (.seq f6r4 (.seq (.seq f6r5 (.cond (.tmp 55) (.seq f6r6 .ret) .skip)) (.seq (.seq f6r7 (.block 0 (.loop f6l1))) (.seq f6r17 .ret)))))))
abbrev f6 : Pfn := ⟨3, 96, [.tmp 6], f6b⟩
def f6K : Array (List Nat) := #[[1, 2, 3], [1, 2, 3, 16], [6], [1, 2, 3, 7, 8], [1, 2, 3, 7, 8, 9, 10], [1, 2, 3, 7, 9, 55], [6], [1, 2, 3, 7, 9, 58, 59], [1, 2, 3, 7, 9, 58, 59, 60], [1, 2, 3, 7, 9, 11, 58, 59], [1, 2, 3, 7, 9, 11, 12, 58, 59], [1, 2, 3, 7, 9, 11, 12, 58, 59, 63], [1, 2, 3, 7, 9, 11, 12, 58, 59], [1, 2, 3, 7, 9, 11, 12, 58, 59, 73], [1, 2, 3, 7, 9, 11, 12, 58, 59, 93], [6], [1, 2, 3, 7, 9, 58, 59], [6]]
def f6H : Array (List Nat) := #[[], [], [3], [], [], [], [3, 7, 9], [], [], [], [], [], [], [], [], [3, 7, 9], [], [3, 7, 9]]
def f6A : Ann := ⟨fun r => f6K.getD r [], fun r => f6H.getD r [], fun r i => ([] : List (Nat × Nat)).contains (r, i)⟩
theorem f6C : compF Go.Proofs.Try.prog f6A 6 = some f6 := by kernel_rfl

/-- switchboard/switchboardlaw17.PlacePicks -/
abbrev f7o0 : List (Nat × Pop) := [
  (0, ⟨(some 4), .box 24 2 (.tmp 0), none⟩),
  (1, ⟨(some 8), .mv (.c (.t (.b false))), none⟩)]
abbrev f7r0 : Pc := .reg f7o0 [1, 2, 3, 4] []
abbrev f7o1 : List (Nat × Pop) := [
  (0, ⟨(some 13), .fad 1 (.tmp 4), none⟩),
  (1, ⟨(some 14), .load false 1 (.tmp 13), none⟩),
  (2, ⟨(some 15), .call 16 [(.tmp 14)], none⟩),
  (3, ⟨(some 16), .un .not (.tmp 15), none⟩)]
abbrev f7r1 : Pc := .reg f7o1 [1, 2, 3, 4, 16] []
abbrev f7o2 : List (Nat × Pop) := [
  (0, ⟨(some 17), .call 17 [], none⟩),
  (1, ⟨(some 8), .mv (.tmp 17), none⟩)]
abbrev f7r2 : Pc := .reg f7o2 [8] [4]
abbrev f7o3 : List (Nat × Pop) := [
  (0, ⟨(some 19), .load true 2 (.tmp 4), none⟩),
  (1, ⟨(some 20), .mv (.tmp 1), none⟩),
  (2, ⟨(some 21), .mv (.tmp 3), none⟩),
  (3, ⟨(some 22), .call 25 [(.tmp 19), (.tmp 20), (.tmp 21)], none⟩),
  (4, ⟨(some 18), .mv (.tmp 22), none⟩),
  (5, ⟨(some 23), .ext 0 (.tmp 18), none⟩),
  (6, ⟨(some 24), .ext 1 (.tmp 18), none⟩),
  (7, ⟨(some 9), .mv (.tmp 23), none⟩),
  (8, ⟨(some 10), .mv (.tmp 24), none⟩)]
abbrev f7r3 : Pc := .reg f7o3 [1, 2, 3, 4, 9, 10] []
abbrev f7o4 : List (Nat × Pop) := [
  (0, ⟨(some 25), .load true 2 (.tmp 4), none⟩),
  (1, ⟨(some 26), .call 26 [(.tmp 25)], none⟩),
  (2, ⟨(some 11), .mv (.tmp 26), none⟩)]
abbrev f7r4 : Pc := .reg f7o4 [1, 2, 3, 4, 9, 10, 11] []
abbrev f7o5 : List (Nat × Pop) := [
  (0, ⟨(some 27), .mv (.tmp 1), none⟩),
  (1, ⟨(some 28), .bin .geq (.tmp 27) (.c (.t (.i .i64 0))), none⟩),
  (2, ⟨(some 29), .mv (.tmp 28), none⟩),
  (3, ⟨(some 30), .mv (.tmp 1), (some (29, true))⟩),
  (4, ⟨(some 31), .fad 1 (.tmp 4), (some (29, true))⟩),
  (5, ⟨(some 32), .load false 1 (.tmp 31), (some (29, true))⟩),
  (6, ⟨(some 33), .lenL (.tmp 32), (some (29, true))⟩),
  (7, ⟨(some 34), .bin .lss (.tmp 30) (.tmp 33), (some (29, true))⟩),
  (8, ⟨(some 35), .pick (.tmp 29) (.tmp 34) (.c (.t (.b false))), none⟩),
  (9, ⟨(some 12), .mv (.tmp 35), none⟩)]
abbrev f7r5 : Pc := .reg f7o5 [1, 2, 3, 4, 9, 10, 11, 12] []
abbrev f7o6 : List (Nat × Pop) := [
  (0, ⟨(some 36), .load true 2 (.tmp 4), none⟩),
  (1, ⟨(some 37), .call 22 [(.tmp 36)], none⟩),
  (2, ⟨(some 38), .mv (.tmp 11), none⟩),
  (3, ⟨(some 39), .beq true (.tmp 37) (.tmp 38), none⟩),
  (4, ⟨(some 40), .mv (.tmp 39), none⟩),
  (5, ⟨(some 41), .load true 2 (.tmp 4), (some (40, false))⟩),
  (6, ⟨(some 42), .mv (.tmp 1), (some (40, false))⟩),
  (7, ⟨(some 43), .mv (.tmp 2), (some (40, false))⟩),
  (8, ⟨(some 44), .call 23 [(.tmp 41), (.tmp 42), (.tmp 43)], (some (40, false))⟩),
  (9, ⟨(some 45), .mv (.tmp 12), (some (40, false))⟩),
  (10, ⟨(some 46), .mv (.tmp 45), (some (40, false))⟩),
  (11, ⟨(some 47), .fad 1 (.tmp 4), (some (46, true))⟩),
  (12, ⟨(some 48), .load false 1 (.tmp 47), (some (46, true))⟩),
  (13, ⟨(some 49), .mv (.tmp 1), (some (46, true))⟩),
  (14, ⟨(some 50), .fad 1 (.tmp 4), (some (46, true))⟩),
  (15, ⟨(some 51), .load false 1 (.tmp 50), (some (46, true))⟩),
  (16, ⟨(some 52), .lenL (.tmp 51), (some (46, true))⟩),
  (17, ⟨(some 53), .bin .sub (.tmp 52) (.c (.t (.i .i64 1))), (some (46, true))⟩),
  (18, ⟨(some 54), .mm false [(.tmp 49), (.tmp 53)], (some (46, true))⟩),
  (19, ⟨(some 55), .mm true [(.tmp 54), (.c (.t (.i .i64 0)))], (some (46, true))⟩),
  (20, ⟨(some 56), .ixS 1 (.tmp 48) (.tmp 55), (some (46, true))⟩),
  (21, ⟨(some 57), .load false 1 (.tmp 56), (some (46, true))⟩),
  (22, ⟨(some 58), .mv (.tmp 2), (some (46, true))⟩),
  (23, ⟨(some 59), .call 27 [(.tmp 57), (.tmp 58)], (some (46, true))⟩),
  (24, ⟨(some 60), .pick (.tmp 46) (.tmp 59) (.c (.t (.b false))), (some (40, false))⟩),
  (25, ⟨(some 61), .beq true (.tmp 44) (.tmp 60), (some (40, false))⟩),
  (26, ⟨(some 62), .pick (.tmp 40) (.c (.t (.b true))) (.tmp 61), none⟩)]
abbrev f7r6 : Pc := .reg f7o6 [1, 3, 4, 9, 10, 11, 12, 62] []
abbrev f7o7 : List (Nat × Pop) := [
  (0, ⟨(some 8), .mv (.c (.t (.b false))), none⟩)]
abbrev f7r7 : Pc := .reg f7o7 [8] [4]
abbrev f7o8 : List (Nat × Pop) := [
  (0, ⟨(some 63), .mv (.tmp 11), none⟩),
  (1, ⟨(some 64), .un .not (.tmp 63), none⟩),
  (2, ⟨(some 65), .mv (.tmp 64), none⟩),
  (3, ⟨(some 66), .mv (.tmp 12), (some (65, false))⟩),
  (4, ⟨(some 67), .un .not (.tmp 66), (some (65, false))⟩),
  (5, ⟨(some 68), .pick (.tmp 65) (.c (.t (.b true))) (.tmp 67), none⟩),
  (6, ⟨(some 69), .mv (.tmp 68), none⟩),
  (7, ⟨(some 70), .mv (.tmp 3), (some (69, false))⟩),
  (8, ⟨(some 71), .bin .lss (.tmp 70) (.c (.t (.i .i64 0))), (some (69, false))⟩),
  (9, ⟨(some 72), .pick (.tmp 69) (.c (.t (.b true))) (.tmp 71), none⟩)]
abbrev f7r8 : Pc := .reg f7o8 [1, 3, 4, 9, 10, 72] []
abbrev f7o9 : List (Nat × Pop) := [
  (0, ⟨(some 73), .mv (.tmp 9), none⟩),
  (1, ⟨(some 74), .bin .eql (.tmp 73) (.c (.t (.i .i64 0))), none⟩),
  (2, ⟨(some 75), .mv (.tmp 74), none⟩),
  (3, ⟨(some 76), .mv (.tmp 10), (some (75, true))⟩),
  (4, ⟨(some 77), .un .not (.tmp 76), (some (75, true))⟩),
  (5, ⟨(some 78), .pick (.tmp 75) (.tmp 77) (.c (.t (.b false))), none⟩),
  (6, ⟨(some 79), .mv (.tmp 78), none⟩),
  (7, ⟨(some 80), .call 17 [], (some (79, true))⟩),
  (8, ⟨(some 81), .pick (.tmp 79) (.tmp 80) (.c (.t (.b false))), none⟩),
  (9, ⟨(some 8), .mv (.tmp 81), none⟩)]
abbrev f7r9 : Pc := .reg f7o9 [8] [4]
abbrev f7o10 : List (Nat × Pop) := [
  (0, ⟨(some 82), .mv (.tmp 9), none⟩),
  (1, ⟨(some 83), .fad 1 (.tmp 4), none⟩),
  (2, ⟨(some 84), .load false 1 (.tmp 83), none⟩),
  (3, ⟨(some 85), .mv (.tmp 1), none⟩),
  (4, ⟨(some 86), .ixS 1 (.tmp 84) (.tmp 85), none⟩),
  (5, ⟨(some 87), .load false 1 (.tmp 86), none⟩),
  (6, ⟨(some 88), .mv (.tmp 3), none⟩),
  (7, ⟨(some 89), .fad 1 (.tmp 4), none⟩),
  (8, ⟨(some 90), .load false 1 (.tmp 89), none⟩),
  (9, ⟨(some 91), .mv (.tmp 1), none⟩),
  (10, ⟨(some 92), .ixS 1 (.tmp 90) (.tmp 91), none⟩),
  (11, ⟨(some 93), .load false 1 (.tmp 92), none⟩),
  (12, ⟨(some 94), .lenL (.tmp 93), none⟩),
  (13, ⟨(some 95), .bin .rem (.tmp 88) (.tmp 94), none⟩),
  (14, ⟨(some 96), .ixS 1 (.tmp 87) (.tmp 95), none⟩),
  (15, ⟨(some 97), .load false 1 (.tmp 96), none⟩),
  (16, ⟨(some 98), .bin .eql (.tmp 82) (.tmp 97), none⟩),
  (17, ⟨(some 99), .mv (.tmp 98), none⟩),
  (18, ⟨(some 100), .mv (.tmp 10), (some (99, true))⟩),
  (19, ⟨(some 101), .pick (.tmp 99) (.tmp 100) (.c (.t (.b false))), none⟩),
  (20, ⟨(some 102), .mv (.tmp 101), none⟩),
  (21, ⟨(some 103), .load true 2 (.tmp 4), (some (102, true))⟩),
  (22, ⟨(some 104), .mv (.tmp 1), (some (102, true))⟩),
  (23, ⟨(some 105), .mv (.tmp 9), (some (102, true))⟩),
  (24, ⟨(some 106), .callq 23 [(.tmp 103), (.tmp 104), (.tmp 105)], (some (102, true))⟩),
  (25, ⟨(some 107), .pick (.tmp 102) (.tmp 106) (.c (.t (.b false))), none⟩),
  (26, ⟨(some 108), .mv (.tmp 107), none⟩),
  (27, ⟨(some 109), .callq 17 [], (some (108, true))⟩),
  (28, ⟨(some 110), .pick (.tmp 108) (.tmp 109) (.c (.t (.b false))), none⟩),
  (29, ⟨(some 8), .mv (.tmp 110), none⟩)]
abbrev f7r10 : Pc := .reg f7o10 [8] [4]
abbrev f7b : Pc := (.seq f7r0 (.seq (.seq f7r1 (.cond (.tmp 16) (.seq f7r2 .ret) .skip)) (.seq f7r3 (.seq f7r4 (.seq f7r5 (.seq (.seq f7r6 (.cond (.tmp 62) (.seq f7r7 .ret) .skip)) (.seq (.seq f7r8 (.cond (.tmp 72) (.seq f7r9 .ret) .skip)) (.seq f7r10 .ret))))))))
abbrev f7 : Pfn := ⟨4, 111, [.tmp 8], f7b⟩
def f7K : Array (List Nat) := #[[1, 2, 3, 4], [1, 2, 3, 4, 16], [8], [1, 2, 3, 4, 9, 10], [1, 2, 3, 4, 9, 10, 11], [1, 2, 3, 4, 9, 10, 11, 12], [1, 3, 4, 9, 10, 11, 12, 62], [8], [1, 3, 4, 9, 10, 72], [8], [8]]
def f7H : Array (List Nat) := #[[], [], [4], [], [], [], [], [4], [], [4], [4]]
def f7A : Ann := ⟨fun r => f7K.getD r [], fun r => f7H.getD r [], fun r i => ([] : List (Nat × Nat)).contains (r, i)⟩
theorem f7C : compF Go.Proofs.Try.prog f7A 7 = some f7 := by kernel_rfl

/-- switchboard/switchboardlaw17.PlaceAll -/
abbrev f8o0 : List (Nat × Pop) := [
  (0, ⟨(some 3), .box 24 2 (.tmp 0), none⟩),
  (1, ⟨(some 6), .mv (.c (.t (.b false))), none⟩)]
abbrev f8r0 : Pc := .reg f8o0 [1, 2, 3] []
abbrev f8o1 : List (Nat × Pop) := [
  (0, ⟨(some 11), .fad 1 (.tmp 3), none⟩),
  (1, ⟨(some 12), .load false 1 (.tmp 11), none⟩),
  (2, ⟨(some 13), .call 16 [(.tmp 12)], none⟩),
  (3, ⟨(some 14), .un .not (.tmp 13), none⟩),
  (4, ⟨(some 15), .mv (.tmp 14), none⟩),
  (5, ⟨(some 16), .load true 2 (.tmp 3), (some (15, false))⟩),
  (6, ⟨(some 17), .call 22 [(.tmp 16)], (some (15, false))⟩),
  (7, ⟨(some 18), .un .not (.tmp 17), (some (15, false))⟩),
  (8, ⟨(some 19), .pick (.tmp 15) (.c (.t (.b true))) (.tmp 18), none⟩),
  (9, ⟨(some 20), .mv (.tmp 19), none⟩),
  (10, ⟨(some 21), .mv (.tmp 1), (some (20, false))⟩),
  (11, ⟨(some 22), .bin .lss (.tmp 21) (.c (.t (.i .i64 0))), (some (20, false))⟩),
  (12, ⟨(some 23), .pick (.tmp 20) (.c (.t (.b true))) (.tmp 22), none⟩),
  (13, ⟨(some 24), .mv (.tmp 23), none⟩),
  (14, ⟨(some 25), .mv (.tmp 1), (some (24, false))⟩),
  (15, ⟨(some 26), .fad 1 (.tmp 3), (some (24, false))⟩),
  (16, ⟨(some 27), .load false 1 (.tmp 26), (some (24, false))⟩),
  (17, ⟨(some 28), .lenL (.tmp 27), (some (24, false))⟩),
  (18, ⟨(some 29), .bin .geq (.tmp 25) (.tmp 28), (some (24, false))⟩),
  (19, ⟨(some 30), .pick (.tmp 24) (.c (.t (.b true))) (.tmp 29), none⟩)]
abbrev f8r1 : Pc := .reg f8o1 [1, 2, 3, 30] []
abbrev f8o2 : List (Nat × Pop) := [
  (0, ⟨(some 31), .call 17 [], none⟩),
  (1, ⟨(some 6), .mv (.tmp 31), none⟩)]
abbrev f8r2 : Pc := .reg f8o2 [6] [3]
abbrev f8o3 : List (Nat × Pop) := [
  (0, ⟨(some 7), .mv (.c (.t (.b false))), none⟩)]
abbrev f8r3 : Pc := .reg f8o3 [1, 2, 3, 7] []
abbrev f8o4 : List (Nat × Pop) := [
  (0, ⟨(some 32), .mv (.c (.t (.i .i64 0))), none⟩)]
abbrev f8r4 : Pc := .reg f8o4 [1, 2, 3, 7, 32] []
abbrev f8o5 : List (Nat × Pop) := [
  (0, ⟨(some 33), .bin .lss (.tmp 32) (.c (.t (.i .i64 4))), none⟩)]
abbrev f8r5 : Pc := .reg f8o5 [1, 2, 3, 7, 32, 33] []
abbrev f8o6 : List (Nat × Pop) := [
  (0, ⟨(some 34), .mv (.tmp 32), none⟩),
  (1, ⟨(some 8), .mv (.tmp 34), none⟩)]
abbrev f8r6 : Pc := .reg f8o6 [1, 2, 3, 7, 8, 32] []
abbrev f8o7 : List (Nat × Pop) := [
  (0, ⟨(some 36), .load true 2 (.tmp 3), none⟩),
  (1, ⟨(some 37), .mv (.tmp 1), none⟩),
  (2, ⟨(some 38), .mv (.tmp 8), none⟩),
  (3, ⟨(some 39), .call 25 [(.tmp 36), (.tmp 37), (.tmp 38)], none⟩),
  (4, ⟨(some 35), .mv (.tmp 39), none⟩),
  (5, ⟨(some 40), .ext 0 (.tmp 35), none⟩),
  (6, ⟨(some 41), .ext 1 (.tmp 35), none⟩),
  (7, ⟨(some 9), .mv (.tmp 40), none⟩),
  (8, ⟨(some 10), .mv (.tmp 41), none⟩)]
abbrev f8r7 : Pc := .reg f8o7 [1, 2, 3, 7, 9, 10, 32] []
abbrev f8o8 : List (Nat × Pop) := [
  (0, ⟨(some 42), .mv (.tmp 10), none⟩),
  (1, ⟨(some 43), .un .not (.tmp 42), none⟩),
  (2, ⟨(some 44), .mv (.tmp 43), none⟩),
  (3, ⟨(some 45), .load true 2 (.tmp 3), (some (44, false))⟩),
  (4, ⟨(some 46), .mv (.tmp 1), (some (44, false))⟩),
  (5, ⟨(some 47), .mv (.tmp 9), (some (44, false))⟩),
  (6, ⟨(some 48), .call 23 [(.tmp 45), (.tmp 46), (.tmp 47)], (some (44, false))⟩),
  (7, ⟨(some 49), .un .not (.tmp 48), (some (44, false))⟩),
  (8, ⟨(some 50), .pick (.tmp 44) (.c (.t (.b true))) (.tmp 49), none⟩)]
abbrev f8r8 : Pc := .reg f8o8 [1, 2, 3, 7, 9, 32, 50] []
abbrev f8o9 : List (Nat × Pop) := [
  (0, ⟨(some 6), .mv (.c (.t (.b false))), none⟩)]
abbrev f8r9 : Pc := .reg f8o9 [6] [3]
abbrev f8o10 : List (Nat × Pop) := [
  (0, ⟨(some 51), .mv (.tmp 7), none⟩),
  (1, ⟨(some 52), .mv (.tmp 51), none⟩),
  (2, ⟨(some 53), .mv (.tmp 9), (some (52, false))⟩),
  (3, ⟨(some 54), .mv (.tmp 2), (some (52, false))⟩),
  (4, ⟨(some 55), .bin .eql (.tmp 53) (.tmp 54), (some (52, false))⟩),
  (5, ⟨(some 56), .pick (.tmp 52) (.c (.t (.b true))) (.tmp 55), none⟩),
  (6, ⟨(some 7), .mv (.tmp 56), none⟩)]
abbrev f8r10 : Pc := .reg f8o10 [1, 2, 3, 7, 32] []
abbrev f8o11 : List (Nat × Pop) := [
  (0, ⟨(some 57), .bin .add (.tmp 32) (.c (.t (.i .i64 1))), none⟩),
  (1, ⟨(some 32), .mv (.tmp 57), none⟩)]
abbrev f8r11 : Pc := .reg f8o11 [1, 2, 3, 7, 32] []
def f8l0 : Pc := (.seq f8r5 (.seq (.cond (.tmp 33) .skip (.exit 0)) (.seq (.block 1 (.seq f8r6 (.seq f8r7 (.seq (.seq f8r8 (.cond (.tmp 50) (.seq f8r9 .ret) .skip)) f8r10)))) f8r11)))
theorem f8l0e (C : Cfg) (s : St) : evL C f8l0 s = evL C (.seq f8r5 (.seq (.cond (.tmp 33) .skip (.exit 0)) (.seq (.block 1 (.seq f8r6 (.seq f8r7 (.seq (.seq f8r8 (.cond (.tmp 50) (.seq f8r9 .ret) .skip)) f8r10)))) f8r11))) s := rfl
abbrev f8o12 : List (Nat × Pop) := [
  (0, ⟨(some 58), .mv (.tmp 7), none⟩),
  (1, ⟨(some 59), .load true 2 (.tmp 3), none⟩),
  (2, ⟨(some 60), .mv (.tmp 1), none⟩),
  (3, ⟨(some 61), .mv (.tmp 2), none⟩),
  (4, ⟨(some 62), .call 23 [(.tmp 59), (.tmp 60), (.tmp 61)], none⟩),
  (5, ⟨(some 63), .beq false (.tmp 58) (.tmp 62), none⟩),
  (6, ⟨(some 64), .mv (.tmp 63), none⟩),
  (7, ⟨(some 65), .call 17 [], (some (64, true))⟩),
  (8, ⟨(some 66), .pick (.tmp 64) (.tmp 65) (.c (.t (.b false))), none⟩),
  (9, ⟨(some 6), .mv (.tmp 66), none⟩)]
abbrev f8r12 : Pc := .reg f8o12 [6] [3]
abbrev f8b : Pc := (.seq f8r0 (.seq (.seq f8r1 (.cond (.tmp 30) (.seq f8r2 .ret) .skip)) (.seq f8r3 (.seq (.seq f8r4 (.block 0 (.loop f8l0))) (.seq f8r12 .ret)))))
abbrev f8 : Pfn := ⟨3, 67, [.tmp 6], f8b⟩
def f8K : Array (List Nat) := #[[1, 2, 3], [1, 2, 3, 30], [6], [1, 2, 3, 7], [1, 2, 3, 7, 32], [1, 2, 3, 7, 32, 33], [1, 2, 3, 7, 8, 32], [1, 2, 3, 7, 9, 10, 32], [1, 2, 3, 7, 9, 32, 50], [6], [1, 2, 3, 7, 32], [1, 2, 3, 7, 32], [6]]
def f8H : Array (List Nat) := #[[], [], [3], [], [], [], [], [], [], [3], [], [], [3]]
def f8A : Ann := ⟨fun r => f8K.getD r [], fun r => f8H.getD r [], fun r i => ([] : List (Nat × Nat)).contains (r, i)⟩
theorem f8C : compF Go.Proofs.Try.prog f8A 8 = some f8 := by kernel_rfl

/-- switchboard/switchboardref03.Small -/
abbrev f16o0 : List (Nat × Pop) := [
  (0, ⟨(some 2), .mv (.c (.t (.b false))), none⟩)]
abbrev f16r0 : Pc := .reg f16o0 [0] []
abbrev f16o1 : List (Nat × Pop) := [
  (0, ⟨(some 3), .mv (.c (.t (.i .i64 0))), none⟩)]
abbrev f16r1 : Pc := .reg f16o1 [0, 3] []
abbrev f16o2 : List (Nat × Pop) := [
  (0, ⟨(some 4), .mv (.tmp 3), none⟩),
  (1, ⟨(some 5), .mv (.tmp 0), none⟩),
  (2, ⟨(some 6), .lenL (.tmp 5), none⟩),
  (3, ⟨(some 7), .bin .lss (.tmp 4) (.tmp 6), none⟩),
  (4, ⟨(some 8), .mv (.tmp 7), none⟩),
  (5, ⟨(some 9), .mv (.tmp 3), (some (8, true))⟩),
  (6, ⟨(some 10), .bin .lss (.tmp 9) (.c (.t (.i .i64 30))), (some (8, true))⟩),
  (7, ⟨(some 11), .pick (.tmp 8) (.tmp 10) (.c (.t (.b false))), none⟩)]
abbrev f16r2 : Pc := .reg f16o2 [0, 3, 11] []
abbrev f16o4 : List (Nat × Pop) := [
  (0, ⟨(some 14), .mv (.tmp 0), none⟩),
  (1, ⟨(some 15), .mv (.tmp 3), none⟩),
  (2, ⟨(some 16), .ixS 1 (.tmp 14) (.tmp 15), none⟩),
  (3, ⟨(some 17), .load false 1 (.tmp 16), none⟩),
  (4, ⟨(some 18), .lenL (.tmp 17), none⟩),
  (5, ⟨(some 19), .bin .gtr (.tmp 18) (.c (.t (.i .i64 30))), none⟩)]
abbrev f16r4 : Pc := .reg f16o4 [0, 3, 19] []
abbrev f16o5 : List (Nat × Pop) := [
  (0, ⟨(some 2), .mv (.c (.t (.b false))), none⟩)]
abbrev f16r5 : Pc := .reg f16o5 [2] []
abbrev f16o3 : List (Nat × Pop) := [
  (0, ⟨(some 12), .mv (.tmp 3), none⟩),
  (1, ⟨(some 13), .bin .add (.tmp 12) (.c (.t (.i .i64 1))), none⟩),
  (2, ⟨(some 3), .mv (.tmp 13), none⟩)]
abbrev f16r3 : Pc := .reg f16o3 [0, 3] []
def f16l0 : Pc := (.seq (.seq f16r2 (.cond (.tmp 11) .skip (.exit 0))) (.seq (.block 1 (.seq f16r4 (.cond (.tmp 19) (.seq f16r5 .ret) .skip))) f16r3))
theorem f16l0e (C : Cfg) (s : St) : evL C f16l0 s = evL C (.seq (.seq f16r2 (.cond (.tmp 11) .skip (.exit 0))) (.seq (.block 1 (.seq f16r4 (.cond (.tmp 19) (.seq f16r5 .ret) .skip))) f16r3)) s := rfl
abbrev f16o6 : List (Nat × Pop) := [
  (0, ⟨(some 20), .mv (.tmp 0), none⟩),
  (1, ⟨(some 21), .lenL (.tmp 20), none⟩),
  (2, ⟨(some 22), .bin .leq (.tmp 21) (.c (.t (.i .i64 30))), none⟩),
  (3, ⟨(some 2), .mv (.tmp 22), none⟩)]
abbrev f16r6 : Pc := .reg f16o6 [2] []
abbrev f16b : Pc := (.seq f16r0 (.seq (.seq f16r1 (.block 0 (.loop f16l0))) (.seq f16r6 .ret)))
abbrev f16 : Pfn := ⟨1, 23, [.tmp 2], f16b⟩
def f16K : Array (List Nat) := #[[0], [0, 3], [0, 3, 11], [0, 3], [0, 3, 19], [2], [2]]
def f16H : Array (List Nat) := #[[], [], [], [], [], [], []]
def f16A : Ann := ⟨fun r => f16K.getD r [], fun r => f16H.getD r [], fun r i => ([] : List (Nat × Nat)).contains (r, i)⟩
theorem f16C : compF Go.Proofs.Try.prog f16A 16 = some f16 := by kernel_rfl

/-- switchboard/switchboardlaw17.awake -/
abbrev f17o0 : List (Nat × Pop) := [
  (0, ⟨(some 0), .mv (.c (.t (.b false))), none⟩)]
abbrev f17r0 : Pc := .reg f17o0 [] []
abbrev f17o1 : List (Nat × Pop) := [
  (0, ⟨(some 8), .bslT 1 [(.c (.t (.i .i64 1)))], none⟩),
  (1, ⟨(some 9), .bslT 1 [(.tmp 8)], none⟩),
  (2, ⟨(some 10), .build [(.t (.i .i64 0)), .nl] [(1, 1, (.tmp 9))], none⟩),
  (3, ⟨(some 11), .call 18 [(.tmp 10), (.c (.t (.i .i64 0))), (.c (.t (.i .i64 2)))], none⟩),
  (4, ⟨(some 7), .mv (.tmp 11), none⟩),
  (5, ⟨(some 12), .ext 0 (.tmp 7), none⟩),
  (6, ⟨(some 13), .ext 1 (.tmp 7), none⟩),
  (7, ⟨(some 1), .alloc 24 [(.t (.i .i64 0)), .nl], none⟩),
  (8, ⟨none, .store 2 (.tmp 1) (.tmp 12), none⟩),
  (9, ⟨(some 2), .mv (.tmp 13), none⟩)]
abbrev f17r1 : Pc := .reg f17o1 [1, 2] []
abbrev f17o2 : List (Nat × Pop) := [
  (0, ⟨(some 15), .load true 2 (.tmp 1), none⟩),
  (1, ⟨(some 16), .call 19 [(.tmp 15), (.c (.t (.i .i64 0))), (.c (.t (.i .i64 1)))], none⟩),
  (2, ⟨(some 14), .mv (.tmp 16), none⟩),
  (3, ⟨(some 17), .ext 0 (.tmp 14), none⟩),
  (4, ⟨(some 18), .ext 1 (.tmp 14), none⟩),
  (5, ⟨(some 3), .alloc 24 [(.t (.i .i64 0)), .nl], none⟩),
  (6, ⟨none, .store 2 (.tmp 3) (.tmp 17), none⟩),
  (7, ⟨(some 4), .mv (.tmp 18), none⟩)]
abbrev f17r2 : Pc := .reg f17o2 [1, 2, 3, 4] []
abbrev f17o3 : List (Nat × Pop) := [
  (0, ⟨(some 20), .load true 2 (.tmp 3), none⟩),
  (1, ⟨(some 21), .call 19 [(.tmp 20), (.c (.t (.i .i64 0))), (.c (.t (.i .i64 2)))], none⟩),
  (2, ⟨(some 19), .mv (.tmp 21), none⟩),
  (3, ⟨(some 22), .ext 0 (.tmp 19), none⟩),
  (4, ⟨(some 23), .ext 1 (.tmp 19), none⟩),
  (5, ⟨(some 5), .alloc 24 [(.t (.i .i64 0)), .nl], none⟩),
  (6, ⟨none, .store 2 (.tmp 5) (.tmp 22), none⟩),
  (7, ⟨(some 6), .mv (.tmp 23), none⟩)]
abbrev f17r3 : Pc := .reg f17o3 [1, 2, 3, 4, 6] [5]
abbrev f17o4 : List (Nat × Pop) := [
  (0, ⟨(some 24), .mv (.tmp 2), none⟩),
  (1, ⟨(some 25), .bin .eql (.tmp 24) (.c (.t (.i .i64 0))), none⟩),
  (2, ⟨(some 26), .mv (.tmp 25), none⟩),
  (3, ⟨(some 27), .fad 0 (.tmp 1), (some (26, true))⟩),
  (4, ⟨(some 28), .load false 1 (.tmp 27), (some (26, true))⟩),
  (5, ⟨(some 29), .bin .eql (.tmp 28) (.c (.t (.i .i64 1))), (some (26, true))⟩),
  (6, ⟨(some 30), .pick (.tmp 26) (.tmp 29) (.c (.t (.b false))), none⟩),
  (7, ⟨(some 31), .mv (.tmp 30), none⟩),
  (8, ⟨(some 32), .mv (.tmp 4), (some (31, true))⟩),
  (9, ⟨(some 33), .bin .eql (.tmp 32) (.c (.t (.i .i64 0))), (some (31, true))⟩),
  (10, ⟨(some 34), .pick (.tmp 31) (.tmp 33) (.c (.t (.b false))), none⟩),
  (11, ⟨(some 35), .mv (.tmp 34), none⟩),
  (12, ⟨(some 36), .load true 2 (.tmp 3), (some (35, true))⟩),
  (13, ⟨(some 37), .call 23 [(.tmp 36), (.c (.t (.i .i64 0))), (.c (.t (.i .i64 2)))], (some (35, true))⟩),
  (14, ⟨(some 38), .pick (.tmp 35) (.tmp 37) (.c (.t (.b false))), none⟩),
  (15, ⟨(some 39), .mv (.tmp 38), none⟩),
  (16, ⟨(some 40), .load true 2 (.tmp 3), (some (39, true))⟩),
  (17, ⟨(some 41), .call 23 [(.tmp 40), (.c (.t (.i .i64 0))), (.c (.t (.i .i64 1)))], (some (39, true))⟩),
  (18, ⟨(some 42), .un .not (.tmp 41), (some (39, true))⟩),
  (19, ⟨(some 43), .pick (.tmp 39) (.tmp 42) (.c (.t (.b false))), none⟩),
  (20, ⟨(some 44), .mv (.tmp 43), none⟩),
  (21, ⟨(some 45), .mv (.tmp 6), (some (44, true))⟩),
  (22, ⟨(some 46), .bin .eql (.tmp 45) (.c (.t (.i .i64 7))), (some (44, true))⟩),
  (23, ⟨(some 47), .pick (.tmp 44) (.tmp 46) (.c (.t (.b false))), none⟩),
  (24, ⟨(some 48), .mv (.tmp 47), none⟩),
  (25, ⟨(some 49), .load true 2 (.tmp 3), (some (48, true))⟩),
  (26, ⟨(some 50), .call 22 [(.tmp 49)], (some (48, true))⟩),
  (27, ⟨(some 51), .pick (.tmp 48) (.tmp 50) (.c (.t (.b false))), none⟩),
  (28, ⟨(some 0), .mv (.tmp 51), none⟩)]
abbrev f17r4 : Pc := .reg f17o4 [0] [1, 3]
abbrev f17b : Pc := (.seq f17r0 (.seq f17r1 (.seq f17r2 (.seq f17r3 (.seq f17r4 .ret)))))
abbrev f17 : Pfn := ⟨0, 52, [.tmp 0], f17b⟩
def f17K : Array (List Nat) := #[[], [1, 2], [1, 2, 3, 4], [1, 2, 3, 4, 6], [0]]
def f17H : Array (List Nat) := #[[], [], [], [5], [1, 3]]
def f17A : Ann := ⟨fun r => f17K.getD r [], fun r => f17H.getD r [], fun r i => ([] : List (Nat × Nat)).contains (r, i)⟩
theorem f17C : compF Go.Proofs.Try.prog f17A 17 = some f17 := by kernel_rfl

/-- switchboard/place.Add -/
abbrev f18o0 : List (Nat × Pop) := [
  (0, ⟨(some 3), .box 24 2 (.tmp 0), none⟩),
  (1, ⟨(some 6), .alloc 24 [(.t (.i .i64 0)), .nl], none⟩),
  (2, ⟨(some 7), .mv (.c (.t (.i .i64 0))), none⟩)]
abbrev f18r0 : Pc := .reg f18o0 [1, 2, 3, 6] []
abbrev f18o1 : List (Nat × Pop) := [
  (0, ⟨(some 10), .load true 2 (.tmp 3), none⟩),
  (1, ⟨(some 11), .mv (.tmp 1), none⟩),
  (2, ⟨(some 12), .mv (.tmp 2), none⟩),
  (3, ⟨(some 13), .call 42 [(.tmp 10), (.tmp 11), (.tmp 12)], none⟩),
  (4, ⟨(some 14), .un .not (.tmp 13), none⟩),
  (5, ⟨(some 9), .mv (.tmp 14), none⟩)]
abbrev f18r1 : Pc := .reg f18o1 [1, 2, 3, 6, 9] []
abbrev f18o2 : List (Nat × Pop) := [
  (0, ⟨(some 15), .load true 2 (.tmp 3), none⟩),
  (1, ⟨none, .store 2 (.tmp 6) (.tmp 15), none⟩),
  (2, ⟨(some 7), .mv (.c (.t (.i .i64 1))), none⟩)]
abbrev f18r2 : Pc := .reg f18o2 [6, 7] [3]
abbrev f18o3 : List (Nat × Pop) := [
  (0, ⟨(some 17), .load true 2 (.tmp 3), none⟩),
  (1, ⟨(some 18), .mv (.tmp 1), none⟩),
  (2, ⟨(some 19), .mv (.tmp 2), none⟩),
  (3, ⟨(some 20), .call 23 [(.tmp 17), (.tmp 18), (.tmp 19)], none⟩),
  (4, ⟨(some 16), .mv (.tmp 20), none⟩)]
abbrev f18r3 : Pc := .reg f18o3 [1, 2, 3, 6, 16] []
abbrev f18o4 : List (Nat × Pop) := [
  (0, ⟨(some 21), .load true 2 (.tmp 3), none⟩),
  (1, ⟨none, .store 2 (.tmp 6) (.tmp 21), none⟩),
  (2, ⟨(some 7), .mv (.c (.t (.i .i64 5))), none⟩)]
abbrev f18r4 : Pc := .reg f18o4 [6, 7] [3]
abbrev f18o5 : List (Nat × Pop) := [
  (0, ⟨(some 22), .fad 1 (.tmp 3), none⟩),
  (1, ⟨(some 23), .load false 1 (.tmp 22), none⟩),
  (2, ⟨(some 24), .mv (.tmp 1), none⟩),
  (3, ⟨(some 25), .ixS 1 (.tmp 23) (.tmp 24), none⟩),
  (4, ⟨(some 26), .load false 1 (.tmp 25), none⟩),
  (5, ⟨(some 27), .call 43 [(.tmp 26)], none⟩),
  (6, ⟨(some 28), .mv (.tmp 2), none⟩),
  (7, ⟨(some 29), .bslT 1 [(.tmp 28)], none⟩),
  (8, ⟨(some 30), .app 3 1 8 (.tmp 27) (.tmp 29), none⟩),
  (9, ⟨(some 8), .mv (.tmp 30), none⟩)]
abbrev f18r5 : Pc := .reg f18o5 [1, 3, 6, 8] []
abbrev f18o6 : List (Nat × Pop) := [
  (0, ⟨(some 31), .mv (.tmp 8), none⟩),
  (1, ⟨(some 32), .call 44 [(.tmp 31)], none⟩)]
abbrev f18r6 : Pc := .reg f18o6 [1, 3, 6, 8] []
abbrev f18o7 : List (Nat × Pop) := [
  (0, ⟨(some 33), .load true 2 (.tmp 3), none⟩),
  (1, ⟨(some 34), .mv (.tmp 1), none⟩),
  (2, ⟨(some 35), .mv (.tmp 8), none⟩),
  (3, ⟨(some 36), .call 45 [(.tmp 33), (.tmp 34), (.tmp 35)], none⟩),
  (4, ⟨none, .store 2 (.tmp 6) (.tmp 36), none⟩),
  (5, ⟨(some 7), .mv (.c (.t (.i .i64 0))), none⟩)]
abbrev f18r7 : Pc := .reg f18o7 [6, 7] [3]
abbrev f18b : Pc := (.seq f18r0 (.seq (.block 0 (.seq f18r1 (.cond (.tmp 9) (.seq f18r2 .ret) (.seq f18r3 (.cond (.tmp 16) (.seq f18r4 .ret) .skip))))) (.seq f18r5 (.seq f18r6 (.seq f18r7 .ret)))))
abbrev f18 : Pfn := ⟨3, 37, [.cell 6 true 2, .tmp 7], f18b⟩
def f18K : Array (List Nat) := #[[1, 2, 3, 6], [1, 2, 3, 6, 9], [6, 7], [1, 2, 3, 6, 16], [6, 7], [1, 3, 6, 8], [1, 3, 6, 8], [6, 7]]
def f18H : Array (List Nat) := #[[], [], [3], [], [3], [], [], [3]]
def f18A : Ann := ⟨fun r => f18K.getD r [], fun r => f18H.getD r [], fun r i => ([] : List (Nat × Nat)).contains (r, i)⟩
theorem f18C : compF Go.Proofs.Try.prog f18A 18 = some f18 := by kernel_rfl

/-- switchboard/place.Retire -/
abbrev f19o0 : List (Nat × Pop) := [
  (0, ⟨(some 3), .box 24 2 (.tmp 0), none⟩),
  (1, ⟨(some 5), .box 3 1 (.tmp 2), none⟩),
  (2, ⟨(some 6), .alloc 24 [(.t (.i .i64 0)), .nl], none⟩),
  (3, ⟨(some 7), .mv (.c (.t (.i .i64 0))), none⟩)]
abbrev f19r0 : Pc := .reg f19o0 [1, 3, 5, 6] []
abbrev f19o1 : List (Nat × Pop) := [
  (0, ⟨(some 9), .load true 2 (.tmp 3), none⟩),
  (1, ⟨(some 10), .mv (.tmp 1), none⟩),
  (2, ⟨(some 11), .load false 1 (.tmp 5), none⟩),
  (3, ⟨(some 12), .call 42 [(.tmp 9), (.tmp 10), (.tmp 11)], none⟩),
  (4, ⟨(some 13), .un .not (.tmp 12), none⟩),
  (5, ⟨(some 8), .mv (.tmp 13), none⟩)]
abbrev f19r1 : Pc := .reg f19o1 [1, 3, 5, 6, 8] []
abbrev f19o2 : List (Nat × Pop) := [
  (0, ⟨(some 14), .load true 2 (.tmp 3), none⟩),
  (1, ⟨none, .store 2 (.tmp 6) (.tmp 14), none⟩),
  (2, ⟨(some 7), .mv (.c (.t (.i .i64 1))), none⟩)]
abbrev f19r2 : Pc := .reg f19o2 [6, 7] [3]
abbrev f19o3 : List (Nat × Pop) := [
  (0, ⟨(some 16), .load true 2 (.tmp 3), none⟩),
  (1, ⟨(some 17), .mv (.tmp 1), none⟩),
  (2, ⟨(some 18), .load false 1 (.tmp 5), none⟩),
  (3, ⟨(some 19), .call 23 [(.tmp 16), (.tmp 17), (.tmp 18)], none⟩),
  (4, ⟨(some 20), .un .not (.tmp 19), none⟩),
  (5, ⟨(some 15), .mv (.tmp 20), none⟩)]
abbrev f19r3 : Pc := .reg f19o3 [1, 3, 5, 6, 15] []
abbrev f19o4 : List (Nat × Pop) := [
  (0, ⟨(some 21), .load true 2 (.tmp 3), none⟩),
  (1, ⟨none, .store 2 (.tmp 6) (.tmp 21), none⟩),
  (2, ⟨(some 7), .mv (.c (.t (.i .i64 4))), none⟩)]
abbrev f19r4 : Pc := .reg f19o4 [6, 7] [3]
abbrev f19o5 : List (Nat × Pop) := [
  (0, ⟨(some 23), .fad 1 (.tmp 3), none⟩),
  (1, ⟨(some 24), .load false 1 (.tmp 23), none⟩),
  (2, ⟨(some 25), .mv (.tmp 1), none⟩),
  (3, ⟨(some 26), .ixS 1 (.tmp 24) (.tmp 25), none⟩),
  (4, ⟨(some 27), .load false 1 (.tmp 26), none⟩),
  (5, ⟨(some 28), .lenL (.tmp 27), none⟩),
  (6, ⟨(some 29), .bin .eql (.tmp 28) (.c (.t (.i .i64 1))), none⟩),
  (7, ⟨(some 22), .mv (.tmp 29), none⟩)]
abbrev f19r5 : Pc := .reg f19o5 [1, 3, 5, 6, 22] []
abbrev f19o6 : List (Nat × Pop) := [
  (0, ⟨(some 30), .load true 2 (.tmp 3), none⟩),
  (1, ⟨none, .store 2 (.tmp 6) (.tmp 30), none⟩),
  (2, ⟨(some 7), .mv (.c (.t (.i .i64 7))), none⟩)]
abbrev f19r6 : Pc := .reg f19o6 [6, 7] [3]
abbrev f19o7 : List (Nat × Pop) := [
  (0, ⟨(some 31), .loadB true 2 (.tmp 3), none⟩),
  (1, ⟨(some 32), .mv (.tmp 1), none⟩),
  (2, ⟨(some 33), .fad 1 (.tmp 3), none⟩),
  (3, ⟨(some 34), .load false 1 (.tmp 33), none⟩),
  (4, ⟨(some 35), .mv (.tmp 1), none⟩),
  (5, ⟨(some 36), .ixS 1 (.tmp 34) (.tmp 35), none⟩),
  (6, ⟨(some 37), .load false 1 (.tmp 36), none⟩),
  (7, ⟨(some 38), .callo 43 [(.tmp 37)], none⟩),
  (8, ⟨(some 39), .mkfn 47 [(.tmp 5)], none⟩),
  (9, ⟨(some 40), .callR 46 [(.tmp 38), (.tmp 39)], none⟩),
  (10, ⟨(some 41), .callR 45 [(.tmp 31), (.tmp 32), (.tmp 40)], none⟩),
  (11, ⟨none, .store 2 (.tmp 6) (.tmp 41), none⟩),
  (12, ⟨(some 7), .mv (.c (.t (.i .i64 0))), none⟩)]
abbrev f19r7 : Pc := .reg f19o7 [6, 7] [3]
abbrev f19b : Pc := (.seq f19r0 (.seq (.block 0 (.seq f19r1 (.cond (.tmp 8) (.seq f19r2 .ret) (.seq f19r3 (.cond (.tmp 15) (.seq f19r4 .ret) (.seq f19r5 (.cond (.tmp 22) (.seq f19r6 .ret) .skip))))))) (.seq f19r7 .ret)))
abbrev f19 : Pfn := ⟨3, 42, [.cell 6 true 2, .tmp 7], f19b⟩
def f19K : Array (List Nat) := #[[1, 3, 5, 6], [1, 3, 5, 6, 8], [6, 7], [1, 3, 5, 6, 15], [6, 7], [1, 3, 5, 6, 22], [6, 7], [6, 7]]
def f19H : Array (List Nat) := #[[], [], [3], [], [3], [], [3], [3]]
def f19A : Ann := ⟨fun r => f19K.getD r [], fun r => f19H.getD r [], fun r i => ([(7, 7), (7, 1009), (7, 1010), (7, 0)] : List (Nat × Nat)).contains (r, i)⟩
theorem f19C : compF Go.Proofs.Try.prog f19A 19 = some f19 := by kernel_rfl

/-- switchboard/switchboardref17.Turn -/
abbrev f20o0 : List (Nat × Pop) := [
  (0, ⟨(some 4), .box 27 2 (.tmp 0), none⟩),
  (1, ⟨(some 8), .alloc 27 [(.t (.i .i64 0)), .nl], none⟩),
  (2, ⟨(some 9), .mv (.c (.t (.i .i64 0))), none⟩)]
abbrev f20r0 : Pc := .reg f20o0 [1, 2, 3, 4, 8] []
abbrev f20o1 : List (Nat × Pop) := [
  (0, ⟨(some 17), .load true 2 (.tmp 4), none⟩),
  (1, ⟨(some 18), .call 26 [(.tmp 17)], none⟩),
  (2, ⟨(some 19), .un .not (.tmp 18), none⟩),
  (3, ⟨(some 20), .mv (.tmp 19), none⟩),
  (4, ⟨(some 21), .mv (.tmp 1), (some (20, false))⟩),
  (5, ⟨(some 22), .bin .lss (.tmp 21) (.c (.t (.i .i64 0))), (some (20, false))⟩),
  (6, ⟨(some 23), .pick (.tmp 20) (.c (.t (.b true))) (.tmp 22), none⟩),
  (7, ⟨(some 24), .mv (.tmp 23), none⟩),
  (8, ⟨(some 25), .mv (.tmp 1), (some (24, false))⟩),
  (9, ⟨(some 26), .fad 1 (.tmp 4), (some (24, false))⟩),
  (10, ⟨(some 27), .load false 1 (.tmp 26), (some (24, false))⟩),
  (11, ⟨(some 28), .lenL (.tmp 27), (some (24, false))⟩),
  (12, ⟨(some 29), .bin .geq (.tmp 25) (.tmp 28), (some (24, false))⟩),
  (13, ⟨(some 30), .pick (.tmp 24) (.c (.t (.b true))) (.tmp 29), none⟩),
  (14, ⟨(some 31), .mv (.tmp 30), none⟩),
  (15, ⟨(some 32), .mv (.tmp 2), (some (31, false))⟩),
  (16, ⟨(some 33), .bin .lss (.tmp 32) (.c (.t (.i .i64 1))), (some (31, false))⟩),
  (17, ⟨(some 34), .pick (.tmp 31) (.c (.t (.b true))) (.tmp 33), none⟩),
  (18, ⟨(some 35), .mv (.tmp 34), none⟩),
  (19, ⟨(some 36), .mv (.tmp 2), (some (35, false))⟩),
  (20, ⟨(some 37), .bin .gtr (.tmp 36) (.c (.t (.i .i64 4))), (some (35, false))⟩),
  (21, ⟨(some 38), .pick (.tmp 35) (.c (.t (.b true))) (.tmp 37), none⟩),
  (22, ⟨(some 39), .mv (.tmp 38), none⟩),
  (23, ⟨(some 40), .fad 0 (.tmp 4), (some (39, false))⟩),
  (24, ⟨(some 41), .load false 1 (.tmp 40), (some (39, false))⟩),
  (25, ⟨(some 42), .bin .eql (.tmp 41) (.c (.t (.i .i64 2147483647))), (some (39, false))⟩),
  (26, ⟨(some 43), .pick (.tmp 39) (.c (.t (.b true))) (.tmp 42), none⟩)]
abbrev f20r1 : Pc := .reg f20o1 [1, 2, 3, 4, 8, 43] []
abbrev f20o2 : List (Nat × Pop) := [
  (0, ⟨(some 44), .load true 2 (.tmp 4), none⟩),
  (1, ⟨none, .store 2 (.tmp 8) (.tmp 44), none⟩),
  (2, ⟨(some 9), .mv (.c (.t (.i .i64 1))), none⟩)]
abbrev f20r2 : Pc := .reg f20o2 [8, 9] [4]
abbrev f20o3 : List (Nat × Pop) := [
  (0, ⟨(some 45), .fad 1 (.tmp 4), none⟩),
  (1, ⟨(some 46), .load false 1 (.tmp 45), none⟩),
  (2, ⟨(some 47), .mv (.tmp 1), none⟩),
  (3, ⟨(some 48), .ixS 1 (.tmp 46) (.tmp 47), none⟩),
  (4, ⟨(some 49), .load false 1 (.tmp 48), none⟩),
  (5, ⟨(some 10), .mv (.tmp 49), none⟩)]
abbrev f20r3 : Pc := .reg f20o3 [1, 2, 3, 4, 8, 10] []
abbrev f20o4 : List (Nat × Pop) := [
  (0, ⟨(some 50), .mv (.tmp 10), none⟩),
  (1, ⟨(some 51), .mv (.tmp 2), none⟩),
  (2, ⟨(some 52), .call 27 [(.tmp 50), (.tmp 51)], none⟩),
  (3, ⟨(some 11), .mv (.tmp 52), none⟩)]
abbrev f20r4 : Pc := .reg f20o4 [1, 2, 3, 4, 8, 10, 11] []
abbrev f20o5 : List (Nat × Pop) := [
  (0, ⟨(some 53), .mv (.tmp 3), none⟩),
  (1, ⟨(some 54), .mv (.tmp 53), none⟩),
  (2, ⟨(some 55), .mv (.tmp 11), (some (54, true))⟩),
  (3, ⟨(some 56), .pick (.tmp 54) (.tmp 55) (.c (.t (.b false))), none⟩)]
abbrev f20r5 : Pc := .reg f20o5 [1, 2, 3, 4, 8, 10, 11, 56] []
abbrev f20o6 : List (Nat × Pop) := [
  (0, ⟨(some 57), .load true 2 (.tmp 4), none⟩),
  (1, ⟨none, .store 2 (.tmp 8) (.tmp 57), none⟩),
  (2, ⟨(some 9), .mv (.c (.t (.i .i64 5))), none⟩)]
abbrev f20r6 : Pc := .reg f20o6 [8, 9] [4]
abbrev f20o7 : List (Nat × Pop) := [
  (0, ⟨(some 58), .mv (.tmp 3), none⟩),
  (1, ⟨(some 59), .un .not (.tmp 58), none⟩),
  (2, ⟨(some 60), .mv (.tmp 59), none⟩),
  (3, ⟨(some 61), .mv (.tmp 11), (some (60, true))⟩),
  (4, ⟨(some 62), .un .not (.tmp 61), (some (60, true))⟩),
  (5, ⟨(some 63), .pick (.tmp 60) (.tmp 62) (.c (.t (.b false))), none⟩)]
abbrev f20r7 : Pc := .reg f20o7 [1, 2, 3, 4, 8, 10, 63] []
abbrev f20o8 : List (Nat × Pop) := [
  (0, ⟨(some 64), .load true 2 (.tmp 4), none⟩),
  (1, ⟨none, .store 2 (.tmp 8) (.tmp 64), none⟩),
  (2, ⟨(some 9), .mv (.c (.t (.i .i64 4))), none⟩)]
abbrev f20r8 : Pc := .reg f20o8 [8, 9] [4]
abbrev f20o9 : List (Nat × Pop) := [
  (0, ⟨(some 65), .mv (.tmp 3), none⟩),
  (1, ⟨(some 66), .un .not (.tmp 65), none⟩),
  (2, ⟨(some 67), .mv (.tmp 66), none⟩),
  (3, ⟨(some 68), .mv (.tmp 10), (some (67, true))⟩),
  (4, ⟨(some 69), .lenL (.tmp 68), (some (67, true))⟩),
  (5, ⟨(some 70), .bin .eql (.tmp 69) (.c (.t (.i .i64 1))), (some (67, true))⟩),
  (6, ⟨(some 71), .pick (.tmp 67) (.tmp 70) (.c (.t (.b false))), none⟩)]
abbrev f20r9 : Pc := .reg f20o9 [1, 2, 3, 4, 8, 71] []
abbrev f20o10 : List (Nat × Pop) := [
  (0, ⟨(some 72), .load true 2 (.tmp 4), none⟩),
  (1, ⟨none, .store 2 (.tmp 8) (.tmp 72), none⟩),
  (2, ⟨(some 9), .mv (.c (.t (.i .i64 7))), none⟩)]
abbrev f20r10 : Pc := .reg f20o10 [8, 9] [4]
abbrev f20o11 : List (Nat × Pop) := [
  (0, ⟨(some 73), .fad 0 (.tmp 4), none⟩),
  (1, ⟨(some 74), .load false 1 (.tmp 73), none⟩),
  (2, ⟨(some 75), .bin .add (.tmp 74) (.c (.t (.i .i64 1))), none⟩),
  (3, ⟨(some 76), .build [(.t (.i .i64 0)), .nl] [(0, 1, (.tmp 75))], none⟩),
  (4, ⟨(some 12), .alloc 27 [(.t (.i .i64 0)), .nl], none⟩),
  (5, ⟨none, .store 2 (.tmp 12) (.tmp 76), none⟩)]
abbrev f20r11 : Pc := .reg f20o11 [1, 2, 3, 4, 8, 12] []
abbrev f20o12 : List (Nat × Pop) := [
  (0, ⟨(some 13), .mv (.c (.t (.i .i64 0))), none⟩)]
abbrev f20r12 : Pc := .reg f20o12 [1, 2, 3, 4, 8, 12, 13] []
abbrev f20o13 : List (Nat × Pop) := [
  (0, ⟨(some 77), .mv (.tmp 13), none⟩),
  (1, ⟨(some 78), .fad 1 (.tmp 4), none⟩),
  (2, ⟨(some 79), .load false 1 (.tmp 78), none⟩),
  (3, ⟨(some 80), .lenL (.tmp 79), none⟩),
  (4, ⟨(some 81), .bin .lss (.tmp 77) (.tmp 80), none⟩)]
abbrev f20r13 : Pc := .reg f20o13 [1, 2, 3, 4, 8, 12, 13, 81] []
abbrev f20o15 : List (Nat × Pop) := [
  (0, ⟨(some 14), .nilv 3 1, none⟩)]
abbrev f20r15 : Pc := .reg f20o15 [1, 2, 3, 4, 8, 12, 13, 14] []
abbrev f20o16 : List (Nat × Pop) := [
  (0, ⟨(some 15), .mv (.c (.t (.i .i64 1))), none⟩)]
abbrev f20r16 : Pc := .reg f20o16 [1, 2, 3, 4, 8, 12, 13, 14, 15] []
abbrev f20o17 : List (Nat × Pop) := [
  (0, ⟨(some 84), .mv (.tmp 15), none⟩),
  (1, ⟨(some 85), .bin .lss (.tmp 84) (.c (.t (.i .i64 5))), none⟩)]
abbrev f20r17 : Pc := .reg f20o17 [1, 2, 3, 4, 8, 12, 13, 14, 15, 85] []
abbrev f20o19 : List (Nat × Pop) := [
  (0, ⟨(some 88), .fad 1 (.tmp 4), none⟩),
  (1, ⟨(some 89), .load false 1 (.tmp 88), none⟩),
  (2, ⟨(some 90), .mv (.tmp 13), none⟩),
  (3, ⟨(some 91), .ixS 1 (.tmp 89) (.tmp 90), none⟩),
  (4, ⟨(some 92), .load false 1 (.tmp 91), none⟩),
  (5, ⟨(some 93), .mv (.tmp 15), none⟩),
  (6, ⟨(some 94), .call 27 [(.tmp 92), (.tmp 93)], none⟩),
  (7, ⟨(some 16), .mv (.tmp 94), none⟩)]
abbrev f20r19 : Pc := .reg f20o19 [1, 2, 3, 4, 8, 12, 13, 14, 15, 16] []
abbrev f20o20 : List (Nat × Pop) := [
  (0, ⟨(some 95), .mv (.tmp 13), none⟩),
  (1, ⟨(some 96), .mv (.tmp 1), none⟩),
  (2, ⟨(some 97), .bin .eql (.tmp 95) (.tmp 96), none⟩),
  (3, ⟨(some 98), .mv (.tmp 97), none⟩),
  (4, ⟨(some 99), .mv (.tmp 15), (some (98, true))⟩),
  (5, ⟨(some 100), .mv (.tmp 2), (some (98, true))⟩),
  (6, ⟨(some 101), .bin .eql (.tmp 99) (.tmp 100), (some (98, true))⟩),
  (7, ⟨(some 102), .pick (.tmp 98) (.tmp 101) (.c (.t (.b false))), none⟩)]
abbrev f20r20 : Pc := .reg f20o20 [1, 2, 3, 4, 8, 12, 13, 14, 15, 16, 102] []
abbrev f20o21 : List (Nat × Pop) := [
  (0, ⟨(some 103), .mv (.tmp 3), none⟩),
  (1, ⟨(some 16), .mv (.tmp 103), none⟩)]
abbrev f20r21 : Pc := .reg f20o21 [1, 2, 3, 4, 8, 12, 13, 14, 15, 16] []
abbrev f20o22 : List (Nat × Pop) := [
  (0, ⟨(some 104), .mv (.tmp 16), none⟩)]
abbrev f20r22 : Pc := .reg f20o22 [1, 2, 3, 4, 8, 12, 13, 14, 15, 104] []
abbrev f20o23 : List (Nat × Pop) := [
  (0, ⟨(some 105), .mv (.tmp 14), none⟩),
  (1, ⟨(some 106), .mv (.tmp 15), none⟩),
  (2, ⟨(some 107), .bslT 1 [(.tmp 106)], none⟩),
  (3, ⟨(some 108), .app 3 1 8 (.tmp 105) (.tmp 107), none⟩),
  (4, ⟨(some 14), .mv (.tmp 108), none⟩)]
abbrev f20r23 : Pc := .reg f20o23 [1, 2, 3, 4, 8, 12, 13, 14, 15] []
abbrev f20o18 : List (Nat × Pop) := [
  (0, ⟨(some 86), .mv (.tmp 15), none⟩),
  (1, ⟨(some 87), .bin .add (.tmp 86) (.c (.t (.i .i64 1))), none⟩),
  (2, ⟨(some 15), .mv (.tmp 87), none⟩)]
abbrev f20r18 : Pc := .reg f20o18 [1, 2, 3, 4, 8, 12, 13, 14, 15] []
def f20l0 : Pc := (.seq (.seq f20r17 (.cond (.tmp 85) .skip (.exit 2))) (.seq (.block 3 (.seq f20r19 (.seq (.seq f20r20 (.cond (.tmp 102) f20r21 .skip)) (.seq f20r22 (.cond (.tmp 104) f20r23 .skip))))) f20r18))
theorem f20l0e (C : Cfg) (s : St) : evL C f20l0 s = evL C (.seq (.seq f20r17 (.cond (.tmp 85) .skip (.exit 2))) (.seq (.block 3 (.seq f20r19 (.seq (.seq f20r20 (.cond (.tmp 102) f20r21 .skip)) (.seq f20r22 (.cond (.tmp 104) f20r23 .skip))))) f20r18)) s := rfl
abbrev f20o24 : List (Nat × Pop) := [
  (0, ⟨(some 109), .fad 1 (.tmp 12), none⟩),
  (1, ⟨(some 110), .load false 1 (.tmp 109), none⟩),
  (2, ⟨(some 111), .mv (.tmp 14), none⟩),
  (3, ⟨(some 112), .bslT 1 [(.tmp 111)], none⟩),
  (4, ⟨(some 113), .app 36 1 24 (.tmp 110) (.tmp 112), none⟩),
  (5, ⟨(some 114), .fad 1 (.tmp 12), none⟩),
  (6, ⟨none, .store 1 (.tmp 114) (.tmp 113), none⟩)]
abbrev f20r24 : Pc := .reg f20o24 [1, 2, 3, 4, 8, 12, 13] [14, 108]
abbrev f20o14 : List (Nat × Pop) := [
  (0, ⟨(some 82), .mv (.tmp 13), none⟩),
  (1, ⟨(some 83), .bin .add (.tmp 82) (.c (.t (.i .i64 1))), none⟩),
  (2, ⟨(some 13), .mv (.tmp 83), none⟩)]
abbrev f20r14 : Pc := .reg f20o14 [1, 2, 3, 4, 8, 12, 13] []
def f20l1 : Pc := (.seq (.seq f20r13 (.cond (.tmp 81) .skip (.exit 0))) (.seq (.block 1 (.seq f20r15 (.seq (.seq f20r16 (.block 2 (.loop f20l0))) f20r24))) f20r14))
theorem f20l1e (C : Cfg) (s : St) : evL C f20l1 s = evL C (.seq (.seq f20r13 (.cond (.tmp 81) .skip (.exit 0))) (.seq (.block 1 (.seq f20r15 (.seq (.seq f20r16 (.block 2 (.loop f20l0))) f20r24))) f20r14)) s := rfl
abbrev f20o25 : List (Nat × Pop) := [
  (0, ⟨(some 115), .load true 2 (.tmp 12), none⟩),
  (1, ⟨none, .store 2 (.tmp 8) (.tmp 115), none⟩),
  (2, ⟨(some 9), .mv (.c (.t (.i .i64 0))), none⟩)]
abbrev f20r25 : Pc := .reg f20o25 [8, 9] [4, 12]
abbrev f20b : Pc := (.seq f20r0 (.seq (.seq f20r1 (.cond (.tmp 43) (.seq f20r2 .ret) .skip)) (.seq f20r3 (.seq f20r4 (.seq (.seq f20r5 (.cond (.tmp 56) (.seq f20r6 .ret) .skip)) (.seq (.seq f20r7 (.cond (.tmp 63) (.seq f20r8 .ret) .skip)) (.seq (.seq f20r9 (.cond (.tmp 71) (.seq f20r10 .ret) .skip)) (.seq f20r11 (.seq (.seq f20r12 (.block 0 (.loop f20l1))) (.seq f20r25 .ret))))))))))
abbrev f20 : Pfn := ⟨4, 116, [.cell 8 true 2, .tmp 9], f20b⟩
def f20K : Array (List Nat) := #[[1, 2, 3, 4, 8], [1, 2, 3, 4, 8, 43], [8, 9], [1, 2, 3, 4, 8, 10], [1, 2, 3, 4, 8, 10, 11], [1, 2, 3, 4, 8, 10, 11, 56], [8, 9], [1, 2, 3, 4, 8, 10, 63], [8, 9], [1, 2, 3, 4, 8, 71], [8, 9], [1, 2, 3, 4, 8, 12], [1, 2, 3, 4, 8, 12, 13], [1, 2, 3, 4, 8, 12, 13, 81], [1, 2, 3, 4, 8, 12, 13], [1, 2, 3, 4, 8, 12, 13, 14], [1, 2, 3, 4, 8, 12, 13, 14, 15], [1, 2, 3, 4, 8, 12, 13, 14, 15, 85], [1, 2, 3, 4, 8, 12, 13, 14, 15], [1, 2, 3, 4, 8, 12, 13, 14, 15, 16], [1, 2, 3, 4, 8, 12, 13, 14, 15, 16, 102], [1, 2, 3, 4, 8, 12, 13, 14, 15, 16], [1, 2, 3, 4, 8, 12, 13, 14, 15, 104], [1, 2, 3, 4, 8, 12, 13, 14, 15], [1, 2, 3, 4, 8, 12, 13], [8, 9]]
def f20H : Array (List Nat) := #[[], [], [4], [], [], [], [4], [], [4], [], [4], [], [], [], [], [], [], [], [], [], [], [], [], [], [14, 108], [4, 12]]
def f20A : Ann := ⟨fun r => f20K.getD r [], fun r => f20H.getD r [], fun r i => ([] : List (Nat × Nat)).contains (r, i)⟩
theorem f20C : compF Go.Proofs.Try.prog f20A 20 = some f20 := by kernel_rfl

/-- switchboard/switchboardlaw17.same -/
abbrev f21o0 : List (Nat × Pop) := [
  (0, ⟨(some 2), .box 24 2 (.tmp 0), none⟩),
  (1, ⟨(some 3), .box 27 2 (.tmp 1), none⟩),
  (2, ⟨(some 4), .mv (.c (.t (.b false))), none⟩)]
abbrev f21r0 : Pc := .reg f21o0 [2, 3] []
abbrev f21o1 : List (Nat × Pop) := [
  (0, ⟨(some 5), .fad 0 (.tmp 2), none⟩),
  (1, ⟨(some 6), .load false 1 (.tmp 5), none⟩),
  (2, ⟨(some 7), .fad 0 (.tmp 3), none⟩),
  (3, ⟨(some 8), .load false 1 (.tmp 7), none⟩),
  (4, ⟨(some 9), .bin .eql (.tmp 6) (.tmp 8), none⟩),
  (5, ⟨(some 10), .mv (.tmp 9), none⟩),
  (6, ⟨(some 11), .fad 1 (.tmp 2), (some (10, true))⟩),
  (7, ⟨(some 12), .load false 1 (.tmp 11), (some (10, true))⟩),
  (8, ⟨(some 13), .fad 1 (.tmp 3), (some (10, true))⟩),
  (9, ⟨(some 14), .load false 1 (.tmp 13), (some (10, true))⟩),
  (10, ⟨(some 15), .call 24 [(.tmp 12), (.tmp 14)], (some (10, true))⟩),
  (11, ⟨(some 16), .pick (.tmp 10) (.tmp 15) (.c (.t (.b false))), none⟩),
  (12, ⟨(some 4), .mv (.tmp 16), none⟩)]
abbrev f21r1 : Pc := .reg f21o1 [4] [2, 3]
abbrev f21b : Pc := (.seq f21r0 (.seq f21r1 .ret))
abbrev f21 : Pfn := ⟨2, 17, [.tmp 4], f21b⟩
def f21K : Array (List Nat) := #[[2, 3], [4]]
def f21H : Array (List Nat) := #[[], [2, 3]]
def f21A : Ann := ⟨fun r => f21K.getD r [], fun r => f21H.getD r [], fun r i => ([] : List (Nat × Nat)).contains (r, i)⟩
theorem f21C : compF Go.Proofs.Try.prog f21A 21 = some f21 := by kernel_rfl

/-- switchboard/place.Right -/
abbrev f22o0 : List (Nat × Pop) := [
  (0, ⟨(some 1), .box 24 2 (.tmp 0), none⟩),
  (1, ⟨(some 2), .mv (.c (.t (.b false))), none⟩)]
abbrev f22r0 : Pc := .reg f22o0 [1] []
abbrev f22o1 : List (Nat × Pop) := [
  (0, ⟨(some 8), .fad 1 (.tmp 1), none⟩),
  (1, ⟨(some 9), .load false 1 (.tmp 8), none⟩),
  (2, ⟨(some 10), .lenL (.tmp 9), none⟩),
  (3, ⟨(some 11), .mv (.c (.t (.i .i64 0))), none⟩)]
abbrev f22r1 : Pc := .reg f22o1 [1, 9, 10, 11] []
abbrev f22o2 : List (Nat × Pop) := [
  (0, ⟨(some 12), .bin .lss (.tmp 11) (.tmp 10), none⟩)]
abbrev f22r2 : Pc := .reg f22o2 [1, 9, 10, 11, 12] []
abbrev f22o3 : List (Nat × Pop) := [
  (0, ⟨(some 13), .ixS 1 (.tmp 9) (.tmp 11), none⟩),
  (1, ⟨(some 14), .load false 1 (.tmp 13), none⟩),
  (2, ⟨(some 4), .mv (.tmp 14), none⟩)]
abbrev f22r3 : Pc := .reg f22o3 [1, 4, 9, 10, 11] []
abbrev f22o4 : List (Nat × Pop) := [
  (0, ⟨(some 5), .mv (.c (.t (.i .i64 0))), none⟩)]
abbrev f22r4 : Pc := .reg f22o4 [1, 4, 5, 9, 10, 11] []
abbrev f22o5 : List (Nat × Pop) := [
  (0, ⟨(some 15), .mv (.tmp 4), none⟩),
  (1, ⟨(some 16), .lenL (.tmp 15), none⟩),
  (2, ⟨(some 17), .mv (.c (.t (.i .i64 0))), none⟩)]
abbrev f22r5 : Pc := .reg f22o5 [1, 4, 5, 9, 10, 11, 15, 16, 17] []
abbrev f22o6 : List (Nat × Pop) := [
  (0, ⟨(some 18), .bin .lss (.tmp 17) (.tmp 16), none⟩)]
abbrev f22r6 : Pc := .reg f22o6 [1, 4, 5, 9, 10, 11, 15, 16, 17, 18] []
abbrev f22o7 : List (Nat × Pop) := [
  (0, ⟨(some 19), .ixS 1 (.tmp 15) (.tmp 17), none⟩),
  (1, ⟨(some 20), .load false 1 (.tmp 19), none⟩),
  (2, ⟨(some 7), .mv (.tmp 20), none⟩)]
abbrev f22r7 : Pc := .reg f22o7 [1, 4, 5, 7, 9, 10, 11, 15, 16, 17] []
abbrev f22o8 : List (Nat × Pop) := [
  (0, ⟨(some 21), .mv (.tmp 7), none⟩),
  (1, ⟨(some 22), .mv (.tmp 5), none⟩),
  (2, ⟨(some 23), .bin .leq (.tmp 21) (.tmp 22), none⟩),
  (3, ⟨(some 24), .mv (.tmp 23), none⟩),
  (4, ⟨(some 25), .mv (.tmp 7), (some (24, false))⟩),
  (5, ⟨(some 26), .bin .gtr (.tmp 25) (.c (.t (.i .i64 4))), (some (24, false))⟩),
  (6, ⟨(some 27), .pick (.tmp 24) (.c (.t (.b true))) (.tmp 26), none⟩)]
abbrev f22r8 : Pc := .reg f22o8 [1, 4, 7, 9, 10, 11, 15, 16, 17, 27] []
abbrev f22o9 : List (Nat × Pop) := [
  (0, ⟨(some 2), .mv (.c (.t (.b false))), none⟩)]
abbrev f22r9 : Pc := .reg f22o9 [2] [1]
abbrev f22o10 : List (Nat × Pop) := [
  (0, ⟨(some 28), .mv (.tmp 7), none⟩),
  (1, ⟨(some 5), .mv (.tmp 28), none⟩)]
abbrev f22r10 : Pc := .reg f22o10 [1, 4, 5, 9, 10, 11, 15, 16, 17] []
abbrev f22o11 : List (Nat × Pop) := [
  (0, ⟨(some 29), .bin .add (.tmp 17) (.c (.t (.i .i64 1))), none⟩),
  (1, ⟨(some 17), .mv (.tmp 29), none⟩)]
abbrev f22r11 : Pc := .reg f22o11 [1, 4, 5, 9, 10, 11, 15, 16, 17] []
def f22l0 : Pc := (.seq f22r6 (.seq (.cond (.tmp 18) .skip (.exit 2)) (.seq (.block 3 (.seq f22r7 (.seq (.seq f22r8 (.cond (.tmp 27) (.seq f22r9 .ret) .skip)) f22r10))) f22r11)))
theorem f22l0e (C : Cfg) (s : St) : evL C f22l0 s = evL C (.seq f22r6 (.seq (.cond (.tmp 18) .skip (.exit 2)) (.seq (.block 3 (.seq f22r7 (.seq (.seq f22r8 (.cond (.tmp 27) (.seq f22r9 .ret) .skip)) f22r10))) f22r11))) s := rfl
abbrev f22o12 : List (Nat × Pop) := [
  (0, ⟨(some 30), .mv (.tmp 4), none⟩),
  (1, ⟨(some 31), .lenL (.tmp 30), none⟩),
  (2, ⟨(some 32), .bin .eql (.tmp 31) (.c (.t (.i .i64 0))), none⟩)]
abbrev f22r12 : Pc := .reg f22o12 [1, 9, 10, 11, 32] []
abbrev f22o13 : List (Nat × Pop) := [
  (0, ⟨(some 2), .mv (.c (.t (.b false))), none⟩)]
abbrev f22r13 : Pc := .reg f22o13 [2] [1]
abbrev f22o14 : List (Nat × Pop) := [
  (0, ⟨(some 33), .bin .add (.tmp 11) (.c (.t (.i .i64 1))), none⟩),
  (1, ⟨(some 11), .mv (.tmp 33), none⟩)]
abbrev f22r14 : Pc := .reg f22o14 [1, 9, 10, 11] []
def f22l1 : Pc := (.seq f22r2 (.seq (.cond (.tmp 12) .skip (.exit 0)) (.seq (.block 1 (.seq f22r3 (.seq f22r4 (.seq (.seq f22r5 (.block 2 (.loop f22l0))) (.seq f22r12 (.cond (.tmp 32) (.seq f22r13 .ret) .skip)))))) f22r14)))
theorem f22l1e (C : Cfg) (s : St) : evL C f22l1 s = evL C (.seq f22r2 (.seq (.cond (.tmp 12) .skip (.exit 0)) (.seq (.block 1 (.seq f22r3 (.seq f22r4 (.seq (.seq f22r5 (.block 2 (.loop f22l0))) (.seq f22r12 (.cond (.tmp 32) (.seq f22r13 .ret) .skip)))))) f22r14))) s := rfl
abbrev f22o15 : List (Nat × Pop) := [
  (0, ⟨(some 34), .fad 0 (.tmp 1), none⟩),
  (1, ⟨(some 35), .load false 1 (.tmp 34), none⟩),
  (2, ⟨(some 36), .bin .geq (.tmp 35) (.c (.t (.i .i64 0))), none⟩),
  (3, ⟨(some 37), .mv (.tmp 36), none⟩),
  (4, ⟨(some 38), .fad 0 (.tmp 1), (some (37, true))⟩),
  (5, ⟨(some 39), .load false 1 (.tmp 38), (some (37, true))⟩),
  (6, ⟨(some 40), .bin .leq (.tmp 39) (.c (.t (.i .i64 2147483647))), (some (37, true))⟩),
  (7, ⟨(some 41), .pick (.tmp 37) (.tmp 40) (.c (.t (.b false))), none⟩),
  (8, ⟨(some 42), .mv (.tmp 41), none⟩),
  (9, ⟨(some 43), .fad 1 (.tmp 1), (some (42, true))⟩),
  (10, ⟨(some 44), .load false 1 (.tmp 43), (some (42, true))⟩),
  (11, ⟨(some 45), .lenL (.tmp 44), (some (42, true))⟩),
  (12, ⟨(some 46), .bin .leq (.tmp 45) (.c (.t (.i .i64 8))), (some (42, true))⟩),
  (13, ⟨(some 47), .pick (.tmp 42) (.tmp 46) (.c (.t (.b false))), none⟩),
  (14, ⟨(some 2), .mv (.tmp 47), none⟩)]
abbrev f22r15 : Pc := .reg f22o15 [2] [1]
abbrev f22b : Pc := (.seq f22r0 (.seq (.seq f22r1 (.block 0 (.loop f22l1))) (.seq f22r15 .ret)))
abbrev f22 : Pfn := ⟨1, 48, [.tmp 2], f22b⟩
def f22K : Array (List Nat) := #[[1], [1, 9, 10, 11], [1, 9, 10, 11, 12], [1, 4, 9, 10, 11], [1, 4, 5, 9, 10, 11], [1, 4, 5, 9, 10, 11, 15, 16, 17], [1, 4, 5, 9, 10, 11, 15, 16, 17, 18], [1, 4, 5, 7, 9, 10, 11, 15, 16, 17], [1, 4, 7, 9, 10, 11, 15, 16, 17, 27], [2], [1, 4, 5, 9, 10, 11, 15, 16, 17], [1, 4, 5, 9, 10, 11, 15, 16, 17], [1, 9, 10, 11, 32], [2], [1, 9, 10, 11], [2]]
def f22H : Array (List Nat) := #[[], [], [], [], [], [], [], [], [], [1], [], [], [], [1], [], [1]]
def f22A : Ann := ⟨fun r => f22K.getD r [], fun r => f22H.getD r [], fun r i => ([] : List (Nat × Nat)).contains (r, i)⟩
theorem f22C : compF Go.Proofs.Try.prog f22A 22 = some f22 := by kernel_rfl

/-- switchboard/place.Holds -/
abbrev f23o0 : List (Nat × Pop) := [
  (0, ⟨(some 3), .box 24 2 (.tmp 0), none⟩),
  (1, ⟨(some 6), .mv (.c (.t (.b false))), none⟩)]
abbrev f23r0 : Pc := .reg f23o0 [1, 2, 3] []
abbrev f23o1 : List (Nat × Pop) := [
  (0, ⟨(some 7), .mv (.tmp 1), none⟩),
  (1, ⟨(some 8), .bin .geq (.tmp 7) (.c (.t (.i .i64 0))), none⟩),
  (2, ⟨(some 9), .mv (.tmp 8), none⟩),
  (3, ⟨(some 10), .mv (.tmp 1), (some (9, true))⟩),
  (4, ⟨(some 11), .fad 1 (.tmp 3), (some (9, true))⟩),
  (5, ⟨(some 12), .load false 1 (.tmp 11), (some (9, true))⟩),
  (6, ⟨(some 13), .lenL (.tmp 12), (some (9, true))⟩),
  (7, ⟨(some 14), .bin .lss (.tmp 10) (.tmp 13), (some (9, true))⟩),
  (8, ⟨(some 15), .pick (.tmp 9) (.tmp 14) (.c (.t (.b false))), none⟩),
  (9, ⟨(some 16), .mv (.tmp 15), none⟩),
  (10, ⟨(some 17), .fad 1 (.tmp 3), (some (16, true))⟩),
  (11, ⟨(some 18), .load false 1 (.tmp 17), (some (16, true))⟩),
  (12, ⟨(some 19), .mv (.tmp 1), (some (16, true))⟩),
  (13, ⟨(some 20), .ixS 1 (.tmp 18) (.tmp 19), (some (16, true))⟩),
  (14, ⟨(some 21), .load false 1 (.tmp 20), (some (16, true))⟩),
  (15, ⟨(some 22), .mv (.tmp 2), (some (16, true))⟩),
  (16, ⟨(some 23), .call 48 [(.tmp 21), (.tmp 22)], (some (16, true))⟩),
  (17, ⟨(some 24), .pick (.tmp 16) (.tmp 23) (.c (.t (.b false))), none⟩),
  (18, ⟨(some 6), .mv (.tmp 24), none⟩)]
abbrev f23r1 : Pc := .reg f23o1 [6] [3]
abbrev f23b : Pc := (.seq f23r0 (.seq f23r1 .ret))
abbrev f23 : Pfn := ⟨3, 25, [.tmp 6], f23b⟩
def f23K : Array (List Nat) := #[[1, 2, 3], [6]]
def f23H : Array (List Nat) := #[[], [3]]
def f23A : Ann := ⟨fun r => f23K.getD r [], fun r => f23H.getD r [], fun r i => ([] : List (Nat × Nat)).contains (r, i)⟩
theorem f23C : compF Go.Proofs.Try.prog f23A 23 = some f23 := by kernel_rfl

/-- switchboard/switchboardref15.Same -/
abbrev f24o0 : List (Nat × Pop) := [
  (0, ⟨(some 4), .mv (.c (.t (.b false))), none⟩)]
abbrev f24r0 : Pc := .reg f24o0 [0, 1] []
abbrev f24o1 : List (Nat × Pop) := [
  (0, ⟨(some 6), .mv (.tmp 0), none⟩),
  (1, ⟨(some 7), .lenL (.tmp 6), none⟩),
  (2, ⟨(some 8), .mv (.tmp 1), none⟩),
  (3, ⟨(some 9), .lenL (.tmp 8), none⟩),
  (4, ⟨(some 10), .bin .neq (.tmp 7) (.tmp 9), none⟩)]
abbrev f24r1 : Pc := .reg f24o1 [0, 1, 10] []
abbrev f24o2 : List (Nat × Pop) := [
  (0, ⟨(some 4), .mv (.c (.t (.b false))), none⟩)]
abbrev f24r2 : Pc := .reg f24o2 [4] []
abbrev f24o3 : List (Nat × Pop) := [
  (0, ⟨(some 5), .mv (.c (.t (.i .i64 0))), none⟩)]
abbrev f24r3 : Pc := .reg f24o3 [0, 1, 5] []
abbrev f24o4 : List (Nat × Pop) := [
  (0, ⟨(some 11), .mv (.tmp 5), none⟩),
  (1, ⟨(some 12), .mv (.tmp 0), none⟩),
  (2, ⟨(some 13), .lenL (.tmp 12), none⟩),
  (3, ⟨(some 14), .bin .lss (.tmp 11) (.tmp 13), none⟩)]
abbrev f24r4 : Pc := .reg f24o4 [0, 1, 5, 14] []
abbrev f24o6 : List (Nat × Pop) := [
  (0, ⟨(some 17), .mv (.tmp 0), none⟩),
  (1, ⟨(some 18), .mv (.tmp 5), none⟩),
  (2, ⟨(some 19), .ixS 1 (.tmp 17) (.tmp 18), none⟩),
  (3, ⟨(some 20), .load false 1 (.tmp 19), none⟩),
  (4, ⟨(some 21), .mv (.tmp 1), none⟩),
  (5, ⟨(some 22), .mv (.tmp 5), none⟩),
  (6, ⟨(some 23), .ixS 1 (.tmp 21) (.tmp 22), none⟩),
  (7, ⟨(some 24), .load false 1 (.tmp 23), none⟩),
  (8, ⟨(some 25), .callq 49 [(.tmp 20), (.tmp 24)], none⟩),
  (9, ⟨(some 26), .un .not (.tmp 25), none⟩)]
abbrev f24r6 : Pc := .reg f24o6 [0, 1, 5, 26] []
abbrev f24o7 : List (Nat × Pop) := [
  (0, ⟨(some 4), .mv (.c (.t (.b false))), none⟩)]
abbrev f24r7 : Pc := .reg f24o7 [4] []
abbrev f24o5 : List (Nat × Pop) := [
  (0, ⟨(some 15), .mv (.tmp 5), none⟩),
  (1, ⟨(some 16), .bin .add (.tmp 15) (.c (.t (.i .i64 1))), none⟩),
  (2, ⟨(some 5), .mv (.tmp 16), none⟩)]
abbrev f24r5 : Pc := .reg f24o5 [0, 1, 5] []
def f24l0 : Pc := (.seq (.seq f24r4 (.cond (.tmp 14) .skip (.exit 0))) (.seq (.block 1 (.seq f24r6 (.cond (.tmp 26) (.seq f24r7 .ret) .skip))) f24r5))
theorem f24l0e (C : Cfg) (s : St) : evL C f24l0 s = evL C (.seq (.seq f24r4 (.cond (.tmp 14) .skip (.exit 0))) (.seq (.block 1 (.seq f24r6 (.cond (.tmp 26) (.seq f24r7 .ret) .skip))) f24r5)) s := rfl
abbrev f24o8 : List (Nat × Pop) := [
  (0, ⟨(some 4), .mv (.c (.t (.b true))), none⟩)]
abbrev f24r8 : Pc := .reg f24o8 [4] []
abbrev f24b : Pc := (.seq f24r0 (.seq (.seq f24r1 (.cond (.tmp 10) (.seq f24r2 .ret) .skip)) (.seq (.seq f24r3 (.block 0 (.loop f24l0))) (.seq f24r8 .ret))))
abbrev f24 : Pfn := ⟨2, 27, [.tmp 4], f24b⟩
def f24K : Array (List Nat) := #[[0, 1], [0, 1, 10], [4], [0, 1, 5], [0, 1, 5, 14], [0, 1, 5], [0, 1, 5, 26], [4], [4]]
def f24H : Array (List Nat) := #[[], [], [], [], [], [], [], [], []]
def f24A : Ann := ⟨fun r => f24K.getD r [], fun r => f24H.getD r [], fun r i => ([] : List (Nat × Nat)).contains (r, i)⟩
theorem f24C : compF Go.Proofs.Try.prog f24A 24 = some f24 := by kernel_rfl

/-- switchboard/place.Pick -/
abbrev f25o0 : List (Nat × Pop) := [
  (0, ⟨(some 3), .box 24 2 (.tmp 0), none⟩),
  (1, ⟨(some 6), .mv (.c (.t (.i .i64 0))), none⟩),
  (2, ⟨(some 7), .mv (.c (.t (.b false))), none⟩)]
abbrev f25r0 : Pc := .reg f25o0 [1, 2, 3] []
abbrev f25o1 : List (Nat × Pop) := [
  (0, ⟨(some 9), .load true 2 (.tmp 3), none⟩),
  (1, ⟨(some 10), .call 22 [(.tmp 9)], none⟩),
  (2, ⟨(some 11), .un .not (.tmp 10), none⟩),
  (3, ⟨(some 12), .mv (.tmp 11), none⟩),
  (4, ⟨(some 13), .mv (.tmp 1), (some (12, false))⟩),
  (5, ⟨(some 14), .bin .lss (.tmp 13) (.c (.t (.i .i64 0))), (some (12, false))⟩),
  (6, ⟨(some 15), .pick (.tmp 12) (.c (.t (.b true))) (.tmp 14), none⟩),
  (7, ⟨(some 16), .mv (.tmp 15), none⟩),
  (8, ⟨(some 17), .mv (.tmp 1), (some (16, false))⟩),
  (9, ⟨(some 18), .fad 1 (.tmp 3), (some (16, false))⟩),
  (10, ⟨(some 19), .load false 1 (.tmp 18), (some (16, false))⟩),
  (11, ⟨(some 20), .lenL (.tmp 19), (some (16, false))⟩),
  (12, ⟨(some 21), .bin .geq (.tmp 17) (.tmp 20), (some (16, false))⟩),
  (13, ⟨(some 22), .pick (.tmp 16) (.c (.t (.b true))) (.tmp 21), none⟩),
  (14, ⟨(some 23), .mv (.tmp 22), none⟩),
  (15, ⟨(some 24), .mv (.tmp 2), (some (23, false))⟩),
  (16, ⟨(some 25), .bin .lss (.tmp 24) (.c (.t (.i .i64 0))), (some (23, false))⟩),
  (17, ⟨(some 26), .pick (.tmp 23) (.c (.t (.b true))) (.tmp 25), none⟩)]
abbrev f25r1 : Pc := .reg f25o1 [1, 2, 3, 26] []
abbrev f25o2 : List (Nat × Pop) := [
  (0, ⟨(some 6), .mv (.c (.t (.i .i64 0))), none⟩),
  (1, ⟨(some 7), .mv (.c (.t (.b false))), none⟩)]
abbrev f25r2 : Pc := .reg f25o2 [6, 7] [3]
abbrev f25o3 : List (Nat × Pop) := [
  (0, ⟨(some 27), .fad 1 (.tmp 3), none⟩),
  (1, ⟨(some 28), .load false 1 (.tmp 27), none⟩),
  (2, ⟨(some 29), .mv (.tmp 1), none⟩),
  (3, ⟨(some 30), .ixS 1 (.tmp 28) (.tmp 29), none⟩),
  (4, ⟨(some 31), .load false 1 (.tmp 30), none⟩),
  (5, ⟨(some 8), .mv (.tmp 31), none⟩)]
abbrev f25r3 : Pc := .reg f25o3 [2, 8] [3]
abbrev f25o4 : List (Nat × Pop) := [
  (0, ⟨(some 32), .mv (.tmp 8), none⟩),
  (1, ⟨(some 33), .mv (.tmp 2), none⟩),
  (2, ⟨(some 34), .mv (.tmp 8), none⟩),
  (3, ⟨(some 35), .lenL (.tmp 34), none⟩),
  (4, ⟨(some 36), .bin .rem (.tmp 33) (.tmp 35), none⟩),
  (5, ⟨(some 37), .ixS 1 (.tmp 32) (.tmp 36), none⟩),
  (6, ⟨(some 38), .load false 1 (.tmp 37), none⟩),
  (7, ⟨(some 6), .mv (.tmp 38), none⟩),
  (8, ⟨(some 7), .mv (.c (.t (.b true))), none⟩)]
abbrev f25r4 : Pc := .reg f25o4 [6, 7] []
abbrev f25b : Pc := (.seq f25r0 (.seq (.seq f25r1 (.cond (.tmp 26) (.seq f25r2 .ret) .skip)) (.seq f25r3 (.seq f25r4 .ret))))
abbrev f25 : Pfn := ⟨3, 39, [.tmp 6, .tmp 7], f25b⟩
def f25K : Array (List Nat) := #[[1, 2, 3], [1, 2, 3, 26], [6, 7], [2, 8], [6, 7]]
def f25H : Array (List Nat) := #[[], [], [3], [3], []]
def f25A : Ann := ⟨fun r => f25K.getD r [], fun r => f25H.getD r [], fun r i => ([] : List (Nat × Nat)).contains (r, i)⟩
theorem f25C : compF Go.Proofs.Try.prog f25A 25 = some f25 := by kernel_rfl

/-- switchboard/switchboardref17.Right -/
abbrev f26o0 : List (Nat × Pop) := [
  (0, ⟨(some 1), .box 27 2 (.tmp 0), none⟩),
  (1, ⟨(some 2), .mv (.c (.t (.b false))), none⟩)]
abbrev f26r0 : Pc := .reg f26o0 [1] []
abbrev f26o1 : List (Nat × Pop) := [
  (0, ⟨(some 6), .fad 0 (.tmp 1), none⟩),
  (1, ⟨(some 7), .load false 1 (.tmp 6), none⟩),
  (2, ⟨(some 8), .bin .lss (.tmp 7) (.c (.t (.i .i64 0))), none⟩),
  (3, ⟨(some 9), .mv (.tmp 8), none⟩),
  (4, ⟨(some 10), .fad 0 (.tmp 1), (some (9, false))⟩),
  (5, ⟨(some 11), .load false 1 (.tmp 10), (some (9, false))⟩),
  (6, ⟨(some 12), .bin .gtr (.tmp 11) (.c (.t (.i .i64 2147483647))), (some (9, false))⟩),
  (7, ⟨(some 13), .pick (.tmp 9) (.c (.t (.b true))) (.tmp 12), none⟩),
  (8, ⟨(some 14), .mv (.tmp 13), none⟩),
  (9, ⟨(some 15), .fad 1 (.tmp 1), (some (14, false))⟩),
  (10, ⟨(some 16), .load false 1 (.tmp 15), (some (14, false))⟩),
  (11, ⟨(some 17), .lenL (.tmp 16), (some (14, false))⟩),
  (12, ⟨(some 18), .bin .gtr (.tmp 17) (.c (.t (.i .i64 8))), (some (14, false))⟩),
  (13, ⟨(some 19), .pick (.tmp 14) (.c (.t (.b true))) (.tmp 18), none⟩)]
abbrev f26r1 : Pc := .reg f26o1 [1, 19] []
abbrev f26o2 : List (Nat × Pop) := [
  (0, ⟨(some 2), .mv (.c (.t (.b false))), none⟩)]
abbrev f26r2 : Pc := .reg f26o2 [2] [1]
abbrev f26o3 : List (Nat × Pop) := [
  (0, ⟨(some 3), .mv (.c (.t (.i .i64 0))), none⟩)]
abbrev f26r3 : Pc := .reg f26o3 [1, 3] []
abbrev f26o4 : List (Nat × Pop) := [
  (0, ⟨(some 20), .mv (.tmp 3), none⟩),
  (1, ⟨(some 21), .fad 1 (.tmp 1), none⟩),
  (2, ⟨(some 22), .load false 1 (.tmp 21), none⟩),
  (3, ⟨(some 23), .lenL (.tmp 22), none⟩),
  (4, ⟨(some 24), .bin .lss (.tmp 20) (.tmp 23), none⟩)]
abbrev f26r4 : Pc := .reg f26o4 [1, 3, 24] []
abbrev f26o6 : List (Nat × Pop) := [
  (0, ⟨(some 27), .fad 1 (.tmp 1), none⟩),
  (1, ⟨(some 28), .load false 1 (.tmp 27), none⟩),
  (2, ⟨(some 29), .mv (.tmp 3), none⟩),
  (3, ⟨(some 30), .ixS 1 (.tmp 28) (.tmp 29), none⟩),
  (4, ⟨(some 31), .load false 1 (.tmp 30), none⟩),
  (5, ⟨(some 4), .mv (.tmp 31), none⟩)]
abbrev f26r6 : Pc := .reg f26o6 [1, 3, 4] []
abbrev f26o7 : List (Nat × Pop) := [
  (0, ⟨(some 32), .mv (.tmp 4), none⟩),
  (1, ⟨(some 33), .lenL (.tmp 32), none⟩),
  (2, ⟨(some 34), .bin .eql (.tmp 33) (.c (.t (.i .i64 0))), none⟩)]
abbrev f26r7 : Pc := .reg f26o7 [1, 3, 4, 34] []
abbrev f26o8 : List (Nat × Pop) := [
  (0, ⟨(some 2), .mv (.c (.t (.b false))), none⟩)]
abbrev f26r8 : Pc := .reg f26o8 [2] [1]
abbrev f26o9 : List (Nat × Pop) := [
  (0, ⟨(some 5), .mv (.c (.t (.i .i64 0))), none⟩)]
abbrev f26r9 : Pc := .reg f26o9 [1, 3, 4, 5] []
abbrev f26o10 : List (Nat × Pop) := [
  (0, ⟨(some 35), .mv (.tmp 5), none⟩),
  (1, ⟨(some 36), .mv (.tmp 4), none⟩),
  (2, ⟨(some 37), .lenL (.tmp 36), none⟩),
  (3, ⟨(some 38), .bin .lss (.tmp 35) (.tmp 37), none⟩)]
abbrev f26r10 : Pc := .reg f26o10 [1, 3, 4, 5, 38] []
abbrev f26o12 : List (Nat × Pop) := [
  (0, ⟨(some 41), .mv (.tmp 4), none⟩),
  (1, ⟨(some 42), .mv (.tmp 5), none⟩),
  (2, ⟨(some 43), .ixS 1 (.tmp 41) (.tmp 42), none⟩),
  (3, ⟨(some 44), .load false 1 (.tmp 43), none⟩),
  (4, ⟨(some 45), .bin .lss (.tmp 44) (.c (.t (.i .i64 1))), none⟩),
  (5, ⟨(some 46), .mv (.tmp 45), none⟩),
  (6, ⟨(some 47), .mv (.tmp 4), (some (46, false))⟩),
  (7, ⟨(some 48), .mv (.tmp 5), (some (46, false))⟩),
  (8, ⟨(some 49), .ixS 1 (.tmp 47) (.tmp 48), (some (46, false))⟩),
  (9, ⟨(some 50), .load false 1 (.tmp 49), (some (46, false))⟩),
  (10, ⟨(some 51), .bin .gtr (.tmp 50) (.c (.t (.i .i64 4))), (some (46, false))⟩),
  (11, ⟨(some 52), .pick (.tmp 46) (.c (.t (.b true))) (.tmp 51), none⟩),
  (12, ⟨(some 53), .mv (.tmp 52), none⟩),
  (13, ⟨(some 54), .mv (.tmp 5), (some (53, false))⟩),
  (14, ⟨(some 55), .bin .gtr (.tmp 54) (.c (.t (.i .i64 0))), (some (53, false))⟩),
  (15, ⟨(some 56), .mv (.tmp 55), (some (53, false))⟩),
  (16, ⟨(some 57), .mv (.tmp 4), (some (56, true))⟩),
  (17, ⟨(some 58), .mv (.tmp 5), (some (56, true))⟩),
  (18, ⟨(some 59), .ixS 1 (.tmp 57) (.tmp 58), (some (56, true))⟩),
  (19, ⟨(some 60), .load false 1 (.tmp 59), (some (56, true))⟩),
  (20, ⟨(some 61), .mv (.tmp 4), (some (56, true))⟩),
  (21, ⟨(some 62), .mv (.tmp 5), (some (56, true))⟩),
  (22, ⟨(some 63), .bin .sub (.tmp 62) (.c (.t (.i .i64 1))), (some (56, true))⟩),
  (23, ⟨(some 64), .ixS 1 (.tmp 61) (.tmp 63), (some (56, true))⟩),
  (24, ⟨(some 65), .load false 1 (.tmp 64), (some (56, true))⟩),
  (25, ⟨(some 66), .bin .leq (.tmp 60) (.tmp 65), (some (56, true))⟩),
  (26, ⟨(some 67), .pick (.tmp 56) (.tmp 66) (.c (.t (.b false))), (some (53, false))⟩),
  (27, ⟨(some 68), .pick (.tmp 53) (.c (.t (.b true))) (.tmp 67), none⟩)]
abbrev f26r12 : Pc := .reg f26o12 [1, 3, 4, 5, 68] []
abbrev f26o13 : List (Nat × Pop) := [
  (0, ⟨(some 2), .mv (.c (.t (.b false))), none⟩)]
abbrev f26r13 : Pc := .reg f26o13 [2] [1]
abbrev f26o11 : List (Nat × Pop) := [
  (0, ⟨(some 39), .mv (.tmp 5), none⟩),
  (1, ⟨(some 40), .bin .add (.tmp 39) (.c (.t (.i .i64 1))), none⟩),
  (2, ⟨(some 5), .mv (.tmp 40), none⟩)]
abbrev f26r11 : Pc := .reg f26o11 [1, 3, 4, 5] []
def f26l0 : Pc := (.seq (.seq f26r10 (.cond (.tmp 38) .skip (.exit 2))) (.seq (.block 3 (.seq f26r12 (.cond (.tmp 68) (.seq f26r13 .ret) .skip))) f26r11))
theorem f26l0e (C : Cfg) (s : St) : evL C f26l0 s = evL C (.seq (.seq f26r10 (.cond (.tmp 38) .skip (.exit 2))) (.seq (.block 3 (.seq f26r12 (.cond (.tmp 68) (.seq f26r13 .ret) .skip))) f26r11)) s := rfl
abbrev f26o5 : List (Nat × Pop) := [
  (0, ⟨(some 25), .mv (.tmp 3), none⟩),
  (1, ⟨(some 26), .bin .add (.tmp 25) (.c (.t (.i .i64 1))), none⟩),
  (2, ⟨(some 3), .mv (.tmp 26), none⟩)]
abbrev f26r5 : Pc := .reg f26o5 [1, 3] []
def f26l1 : Pc := (.seq (.seq f26r4 (.cond (.tmp 24) .skip (.exit 0))) (.seq (.block 1 (.seq f26r6 (.seq (.seq f26r7 (.cond (.tmp 34) (.seq f26r8 .ret) .skip)) (.seq f26r9 (.block 2 (.loop f26l0)))))) f26r5))
theorem f26l1e (C : Cfg) (s : St) : evL C f26l1 s = evL C (.seq (.seq f26r4 (.cond (.tmp 24) .skip (.exit 0))) (.seq (.block 1 (.seq f26r6 (.seq (.seq f26r7 (.cond (.tmp 34) (.seq f26r8 .ret) .skip)) (.seq f26r9 (.block 2 (.loop f26l0)))))) f26r5)) s := rfl
abbrev f26o14 : List (Nat × Pop) := [
  (0, ⟨(some 2), .mv (.c (.t (.b true))), none⟩)]
abbrev f26r14 : Pc := .reg f26o14 [2] [1]
abbrev f26b : Pc := (.seq f26r0 (.seq (.seq f26r1 (.cond (.tmp 19) (.seq f26r2 .ret) .skip)) (.seq (.seq f26r3 (.block 0 (.loop f26l1))) (.seq f26r14 .ret))))
abbrev f26 : Pfn := ⟨1, 69, [.tmp 2], f26b⟩
def f26K : Array (List Nat) := #[[1], [1, 19], [2], [1, 3], [1, 3, 24], [1, 3], [1, 3, 4], [1, 3, 4, 34], [2], [1, 3, 4, 5], [1, 3, 4, 5, 38], [1, 3, 4, 5], [1, 3, 4, 5, 68], [2], [2]]
def f26H : Array (List Nat) := #[[], [], [1], [], [], [], [], [], [1], [], [], [], [], [1], [1]]
def f26A : Ann := ⟨fun r => f26K.getD r [], fun r => f26H.getD r [], fun r i => ([] : List (Nat × Nat)).contains (r, i)⟩
theorem f26C : compF Go.Proofs.Try.prog f26A 26 = some f26 := by kernel_rfl

/-- switchboard/switchboardref17.Has -/
abbrev f27o0 : List (Nat × Pop) := [
  (0, ⟨(some 4), .mv (.c (.t (.b false))), none⟩)]
abbrev f27r0 : Pc := .reg f27o0 [0, 1] []
abbrev f27o1 : List (Nat × Pop) := [
  (0, ⟨(some 5), .mv (.c (.t (.i .i64 0))), none⟩)]
abbrev f27r1 : Pc := .reg f27o1 [0, 1, 5] []
abbrev f27o2 : List (Nat × Pop) := [
  (0, ⟨(some 6), .mv (.tmp 5), none⟩),
  (1, ⟨(some 7), .mv (.tmp 0), none⟩),
  (2, ⟨(some 8), .lenL (.tmp 7), none⟩),
  (3, ⟨(some 9), .bin .lss (.tmp 6) (.tmp 8), none⟩)]
abbrev f27r2 : Pc := .reg f27o2 [0, 1, 5, 9] []
abbrev f27o4 : List (Nat × Pop) := [
  (0, ⟨(some 12), .mv (.tmp 0), none⟩),
  (1, ⟨(some 13), .mv (.tmp 5), none⟩),
  (2, ⟨(some 14), .ixS 1 (.tmp 12) (.tmp 13), none⟩),
  (3, ⟨(some 15), .load false 1 (.tmp 14), none⟩),
  (4, ⟨(some 16), .mv (.tmp 1), none⟩),
  (5, ⟨(some 17), .bin .eql (.tmp 15) (.tmp 16), none⟩)]
abbrev f27r4 : Pc := .reg f27o4 [0, 1, 5, 17] []
abbrev f27o5 : List (Nat × Pop) := [
  (0, ⟨(some 4), .mv (.c (.t (.b true))), none⟩)]
abbrev f27r5 : Pc := .reg f27o5 [4] []
abbrev f27o3 : List (Nat × Pop) := [
  (0, ⟨(some 10), .mv (.tmp 5), none⟩),
  (1, ⟨(some 11), .bin .add (.tmp 10) (.c (.t (.i .i64 1))), none⟩),
  (2, ⟨(some 5), .mv (.tmp 11), none⟩)]
abbrev f27r3 : Pc := .reg f27o3 [0, 1, 5] []
def f27l0 : Pc := (.seq (.seq f27r2 (.cond (.tmp 9) .skip (.exit 0))) (.seq (.block 1 (.seq f27r4 (.cond (.tmp 17) (.seq f27r5 .ret) .skip))) f27r3))
theorem f27l0e (C : Cfg) (s : St) : evL C f27l0 s = evL C (.seq (.seq f27r2 (.cond (.tmp 9) .skip (.exit 0))) (.seq (.block 1 (.seq f27r4 (.cond (.tmp 17) (.seq f27r5 .ret) .skip))) f27r3)) s := rfl
abbrev f27o6 : List (Nat × Pop) := [
  (0, ⟨(some 4), .mv (.c (.t (.b false))), none⟩)]
abbrev f27r6 : Pc := .reg f27o6 [4] []
abbrev f27b : Pc := (.seq f27r0 (.seq (.seq f27r1 (.block 0 (.loop f27l0))) (.seq f27r6 .ret)))
abbrev f27 : Pfn := ⟨2, 18, [.tmp 4], f27b⟩
def f27K : Array (List Nat) := #[[0, 1], [0, 1, 5], [0, 1, 5, 9], [0, 1, 5], [0, 1, 5, 17], [4], [4]]
def f27H : Array (List Nat) := #[[], [], [], [], [], [], []]
def f27A : Ann := ⟨fun r => f27K.getD r [], fun r => f27H.getD r [], fun r i => ([] : List (Nat × Nat)).contains (r, i)⟩
theorem f27C : compF Go.Proofs.Try.prog f27A 27 = some f27 := by kernel_rfl

/-- switchboard/place.may -/
abbrev f42o0 : List (Nat × Pop) := [
  (0, ⟨(some 3), .box 24 2 (.tmp 0), none⟩),
  (1, ⟨(some 6), .mv (.c (.t (.b false))), none⟩)]
abbrev f42r0 : Pc := .reg f42o0 [1, 2, 3] []
abbrev f42o1 : List (Nat × Pop) := [
  (0, ⟨(some 7), .load true 2 (.tmp 3), none⟩),
  (1, ⟨(some 8), .call 22 [(.tmp 7)], none⟩),
  (2, ⟨(some 9), .mv (.tmp 8), none⟩),
  (3, ⟨(some 10), .mv (.tmp 1), (some (9, true))⟩),
  (4, ⟨(some 11), .bin .geq (.tmp 10) (.c (.t (.i .i64 0))), (some (9, true))⟩),
  (5, ⟨(some 12), .pick (.tmp 9) (.tmp 11) (.c (.t (.b false))), none⟩),
  (6, ⟨(some 13), .mv (.tmp 12), none⟩),
  (7, ⟨(some 14), .mv (.tmp 1), (some (13, true))⟩),
  (8, ⟨(some 15), .fad 1 (.tmp 3), (some (13, true))⟩),
  (9, ⟨(some 16), .load false 1 (.tmp 15), (some (13, true))⟩),
  (10, ⟨(some 17), .lenL (.tmp 16), (some (13, true))⟩),
  (11, ⟨(some 18), .bin .lss (.tmp 14) (.tmp 17), (some (13, true))⟩),
  (12, ⟨(some 19), .pick (.tmp 13) (.tmp 18) (.c (.t (.b false))), none⟩),
  (13, ⟨(some 20), .mv (.tmp 19), none⟩),
  (14, ⟨(some 21), .mv (.tmp 2), (some (20, true))⟩),
  (15, ⟨(some 22), .bin .geq (.tmp 21) (.c (.t (.i .i64 1))), (some (20, true))⟩),
  (16, ⟨(some 23), .pick (.tmp 20) (.tmp 22) (.c (.t (.b false))), none⟩),
  (17, ⟨(some 24), .mv (.tmp 23), none⟩),
  (18, ⟨(some 25), .mv (.tmp 2), (some (24, true))⟩),
  (19, ⟨(some 26), .bin .leq (.tmp 25) (.c (.t (.i .i64 4))), (some (24, true))⟩),
  (20, ⟨(some 27), .pick (.tmp 24) (.tmp 26) (.c (.t (.b false))), none⟩),
  (21, ⟨(some 28), .mv (.tmp 27), none⟩),
  (22, ⟨(some 29), .fad 0 (.tmp 3), (some (28, true))⟩),
  (23, ⟨(some 30), .load false 1 (.tmp 29), (some (28, true))⟩),
  (24, ⟨(some 31), .bin .lss (.tmp 30) (.c (.t (.i .i64 2147483647))), (some (28, true))⟩),
  (25, ⟨(some 32), .pick (.tmp 28) (.tmp 31) (.c (.t (.b false))), none⟩),
  (26, ⟨(some 6), .mv (.tmp 32), none⟩)]
abbrev f42r1 : Pc := .reg f42o1 [6] [3]
abbrev f42b : Pc := (.seq f42r0 (.seq f42r1 .ret))
abbrev f42 : Pfn := ⟨3, 33, [.tmp 6], f42b⟩
def f42K : Array (List Nat) := #[[1, 2, 3], [6]]
def f42H : Array (List Nat) := #[[], [3]]
def f42A : Ann := ⟨fun r => f42K.getD r [], fun r => f42H.getD r [], fun r i => ([] : List (Nat × Nat)).contains (r, i)⟩
theorem f42C : compF Go.Proofs.Try.prog f42A 42 = some f42 := by kernel_rfl

/-- slices.Clone[[]int,int] -/
abbrev f43o0 : List (Nat × Pop) := [
  (0, ⟨(some 2), .nilv 3 1, none⟩)]
abbrev f43r0 : Pc := .reg f43o0 [0] [2, 5, 7]
abbrev f43o1 : List (Nat × Pop) := [
  (0, ⟨(some 3), .mv (.tmp 0), none⟩),
  (1, ⟨(some 4), .isnilS false (.tmp 3), none⟩)]
abbrev f43r1 : Pc := .reg f43o1 [0, 4] []
abbrev f43o2 : List (Nat × Pop) := [
  (0, ⟨(some 2), .nilv 3 1, none⟩)]
abbrev f43r2 : Pc := .reg f43o2 [2] []
abbrev f43o3 : List (Nat × Pop) := [
  (0, ⟨(some 5), .bslO 3 1 [], none⟩),
  (1, ⟨(some 6), .mv (.tmp 0), none⟩),
  (2, ⟨(some 7), .app 3 1 8 (.tmp 5) (.tmp 6), none⟩),
  (3, ⟨(some 2), .mv (.tmp 7), none⟩)]
abbrev f43r3 : Pc := .reg f43o3 [2] []
abbrev f43b : Pc := (.seq f43r0 (.seq (.seq f43r1 (.cond (.tmp 4) (.seq f43r2 .ret) .skip)) (.seq f43r3 .ret)))
abbrev f43 : Pfn := ⟨1, 8, [.tmp 2], f43b⟩
def f43K : Array (List Nat) := #[[0], [0, 4], [2], [2]]
def f43H : Array (List Nat) := #[[2, 5, 7], [], [], []]
def f43A : Ann := ⟨fun r => f43K.getD r [], fun r => f43H.getD r [], fun r i => ([(3, 0)] : List (Nat × Nat)).contains (r, i)⟩
theorem f43C : compF Go.Proofs.Try.prog f43A 43 = some f43 := by kernel_rfl

/-- switchboard/place.turned -/
abbrev f45o0 : List (Nat × Pop) := [
  (0, ⟨(some 3), .box 24 2 (.tmp 0), none⟩),
  (1, ⟨(some 6), .alloc 24 [(.t (.i .i64 0)), .nl], none⟩)]
abbrev f45r0 : Pc := .reg f45o0 [1, 2, 3, 6] []
abbrev f45o1 : List (Nat × Pop) := [
  (0, ⟨(some 8), .fad 0 (.tmp 3), none⟩),
  (1, ⟨(some 9), .load false 1 (.tmp 8), none⟩),
  (2, ⟨(some 10), .bin .add (.tmp 9) (.c (.t (.i .i64 1))), none⟩),
  (3, ⟨(some 11), .fad 1 (.tmp 3), none⟩),
  (4, ⟨(some 12), .load false 1 (.tmp 11), none⟩),
  (5, ⟨(some 13), .callo 59 [(.tmp 12)], none⟩),
  (6, ⟨(some 14), .build [(.t (.i .i64 0)), .nl] [(0, 1, (.tmp 10)), (1, 1, (.tmp 13))], none⟩),
  (7, ⟨(some 7), .alloc 24 [(.t (.i .i64 0)), .nl], none⟩),
  (8, ⟨none, .store 2 (.tmp 7) (.tmp 14), none⟩)]
abbrev f45r1 : Pc := .reg f45o1 [1, 2, 6, 7] [3]
abbrev f45o2 : List (Nat × Pop) := [
  (0, ⟨(some 15), .fad 1 (.tmp 7), none⟩),
  (1, ⟨(some 16), .load false 1 (.tmp 15), none⟩),
  (2, ⟨(some 17), .mv (.tmp 1), none⟩),
  (3, ⟨(some 18), .mv (.tmp 2), none⟩),
  (4, ⟨(some 19), .ixS 1 (.tmp 16) (.tmp 17), none⟩),
  (5, ⟨none, .store 1 (.tmp 19) (.tmp 18), none⟩)]
abbrev f45r2 : Pc := .reg f45o2 [6, 7] []
abbrev f45o3 : List (Nat × Pop) := [
  (0, ⟨(some 20), .load true 2 (.tmp 7), none⟩),
  (1, ⟨none, .store 2 (.tmp 6) (.tmp 20), none⟩)]
abbrev f45r3 : Pc := .reg f45o3 [6] [7]
abbrev f45b : Pc := (.seq f45r0 (.seq f45r1 (.seq f45r2 (.seq f45r3 .ret))))
abbrev f45 : Pfn := ⟨3, 21, [.cell 6 true 2], f45b⟩
def f45K : Array (List Nat) := #[[1, 2, 3, 6], [1, 2, 6, 7], [6, 7], [6]]
def f45H : Array (List Nat) := #[[], [3], [], [7]]
def f45A : Ann := ⟨fun r => f45K.getD r [], fun r => f45H.getD r [], fun r i => ([(1, 5)] : List (Nat × Nat)).contains (r, i)⟩
theorem f45C : compF Go.Proofs.Try.prog f45A 45 = some f45 := by kernel_rfl

/-- slices.DeleteFunc[[]int,int] -/
abbrev f46o0 : List (Nat × Pop) := [
  (0, ⟨(some 4), .nilv 3 1, none⟩)]
abbrev f46r0 : Pc := .reg f46o0 [0, 1] [4]
abbrev f46o1 : List (Nat × Pop) := [
  (0, ⟨(some 8), .mv (.tmp 0), none⟩),
  (1, ⟨(some 9), .mv (.tmp 1), none⟩),
  (2, ⟨(some 10), .call 60 [(.tmp 8), (.tmp 9)], none⟩),
  (3, ⟨(some 5), .mv (.tmp 10), none⟩)]
abbrev f46r1 : Pc := .reg f46o1 [0, 1, 5] []
abbrev f46o2 : List (Nat × Pop) := [
  (0, ⟨(some 11), .mv (.tmp 5), none⟩),
  (1, ⟨(some 12), .bin .eql (.tmp 11) (.c (.t (.i .i64 (-1)))), none⟩)]
abbrev f46r2 : Pc := .reg f46o2 [0, 1, 5, 12] []
abbrev f46o3 : List (Nat × Pop) := [
  (0, ⟨(some 13), .mv (.tmp 0), none⟩),
  (1, ⟨(some 4), .mv (.tmp 13), none⟩)]
abbrev f46r3 : Pc := .reg f46o3 [4] []
abbrev f46o4 : List (Nat × Pop) := [
  (0, ⟨(some 14), .mv (.tmp 5), none⟩),
  (1, ⟨(some 15), .bin .add (.tmp 14) (.c (.t (.i .i64 1))), none⟩),
  (2, ⟨(some 6), .mv (.tmp 15), none⟩)]
abbrev f46r4 : Pc := .reg f46o4 [0, 1, 5, 6] []
abbrev f46o5 : List (Nat × Pop) := [
  (0, ⟨(some 16), .mv (.tmp 6), none⟩),
  (1, ⟨(some 17), .mv (.tmp 0), none⟩),
  (2, ⟨(some 18), .lenL (.tmp 17), none⟩),
  (3, ⟨(some 19), .bin .lss (.tmp 16) (.tmp 18), none⟩)]
abbrev f46r5 : Pc := .reg f46o5 [0, 1, 5, 6, 19] []
abbrev f46o7 : List (Nat × Pop) := [
  (0, ⟨(some 22), .mv (.tmp 0), none⟩),
  (1, ⟨(some 23), .mv (.tmp 6), none⟩),
  (2, ⟨(some 24), .ixS 1 (.tmp 22) (.tmp 23), none⟩),
  (3, ⟨(some 25), .load false 1 (.tmp 24), none⟩),
  (4, ⟨(some 7), .mv (.tmp 25), none⟩)]
abbrev f46r7 : Pc := .reg f46o7 [0, 1, 5, 6, 7] []
abbrev f46o8 : List (Nat × Pop) := [
  (0, ⟨(some 26), .mv (.tmp 1), none⟩),
  (1, ⟨(some 27), .mv (.tmp 7), none⟩),
  (2, ⟨(some 28), .callv (.tmp 26) [(.tmp 27)], none⟩),
  (3, ⟨(some 29), .un .not (.tmp 28), none⟩)]
abbrev f46r8 : Pc := .reg f46o8 [0, 1, 5, 6, 7, 29] []
abbrev f46o9 : List (Nat × Pop) := [
  (0, ⟨(some 30), .mv (.tmp 0), none⟩),
  (1, ⟨(some 31), .mv (.tmp 5), none⟩),
  (2, ⟨(some 32), .mv (.tmp 7), none⟩),
  (3, ⟨(some 33), .ixS 1 (.tmp 30) (.tmp 31), none⟩),
  (4, ⟨none, .store 1 (.tmp 33) (.tmp 32), none⟩)]
abbrev f46r9 : Pc := .reg f46o9 [0, 1, 5, 6] []
abbrev f46o10 : List (Nat × Pop) := [
  (0, ⟨(some 34), .mv (.tmp 5), none⟩),
  (1, ⟨(some 35), .bin .add (.tmp 34) (.c (.t (.i .i64 1))), none⟩),
  (2, ⟨(some 5), .mv (.tmp 35), none⟩)]
abbrev f46r10 : Pc := .reg f46o10 [0, 1, 5, 6] []
abbrev f46o6 : List (Nat × Pop) := [
  (0, ⟨(some 20), .mv (.tmp 6), none⟩),
  (1, ⟨(some 21), .bin .add (.tmp 20) (.c (.t (.i .i64 1))), none⟩),
  (2, ⟨(some 6), .mv (.tmp 21), none⟩)]
abbrev f46r6 : Pc := .reg f46o6 [0, 1, 5, 6] []
def f46l0 : Pc := (.seq (.seq f46r5 (.cond (.tmp 19) .skip (.exit 0))) (.seq (.block 1 (.seq f46r7 (.seq f46r8 (.cond (.tmp 29) (.seq f46r9 f46r10) .skip)))) f46r6))
theorem f46l0e (C : Cfg) (s : St) : evL C f46l0 s = evL C (.seq (.seq f46r5 (.cond (.tmp 19) .skip (.exit 0))) (.seq (.block 1 (.seq f46r7 (.seq f46r8 (.cond (.tmp 29) (.seq f46r9 f46r10) .skip)))) f46r6)) s := rfl
abbrev f46o11 : List (Nat × Pop) := [
  (0, ⟨(some 36), .mv (.tmp 0), none⟩),
  (1, ⟨(some 37), .mv (.tmp 5), none⟩),
  (2, ⟨(some 38), .sls 1 (.tmp 36) (some (.tmp 37)) none, none⟩),
  (3, ⟨none, .clr 1 (.tmp 38), none⟩)]
abbrev f46r11 : Pc := .reg f46o11 [0, 5] []
abbrev f46o12 : List (Nat × Pop) := [
  (0, ⟨(some 39), .mv (.tmp 0), none⟩),
  (1, ⟨(some 40), .mv (.tmp 5), none⟩),
  (2, ⟨(some 41), .sls 1 (.tmp 39) none (some (.tmp 40)), none⟩),
  (3, ⟨(some 4), .mv (.tmp 41), none⟩)]
abbrev f46r12 : Pc := .reg f46o12 [4] []
abbrev f46b : Pc := (.seq f46r0 (.seq f46r1 (.seq (.seq f46r2 (.cond (.tmp 12) (.seq f46r3 .ret) .skip)) (.seq (.seq f46r4 (.block 0 (.loop f46l0))) (.seq f46r11 (.seq f46r12 .ret))))))
abbrev f46 : Pfn := ⟨2, 42, [.tmp 4], f46b⟩
def f46K : Array (List Nat) := #[[0, 1], [0, 1, 5], [0, 1, 5, 12], [4], [0, 1, 5, 6], [0, 1, 5, 6, 19], [0, 1, 5, 6], [0, 1, 5, 6, 7], [0, 1, 5, 6, 7, 29], [0, 1, 5, 6], [0, 1, 5, 6], [0, 5], [4]]
def f46H : Array (List Nat) := #[[4], [], [], [], [], [], [], [], [], [], [], [], []]
def f46A : Ann := ⟨fun r => f46K.getD r [], fun r => f46H.getD r [], fun r i => ([] : List (Nat × Nat)).contains (r, i)⟩
theorem f46C : compF Go.Proofs.Try.prog f46A 46 = some f46 := by kernel_rfl

/-- switchboard/place.Retire$1 -/
abbrev f47o0 : List (Nat × Pop) := [
  (0, ⟨(some 3), .mv (.c (.t (.b false))), none⟩)]
abbrev f47r0 : Pc := .reg f47o0 [0, 1] []
abbrev f47o1 : List (Nat × Pop) := [
  (0, ⟨(some 4), .mv (.tmp 0), none⟩),
  (1, ⟨(some 5), .load false 1 (.tmp 1), none⟩),
  (2, ⟨(some 6), .bin .eql (.tmp 4) (.tmp 5), none⟩),
  (3, ⟨(some 3), .mv (.tmp 6), none⟩)]
abbrev f47r1 : Pc := .reg f47o1 [3] []
abbrev f47b : Pc := (.seq f47r0 (.seq f47r1 .ret))
abbrev f47 : Pfn := ⟨2, 7, [.tmp 3], f47b⟩
def f47K : Array (List Nat) := #[[0, 1], [3]]
def f47H : Array (List Nat) := #[[], []]
def f47A : Ann := ⟨fun r => f47K.getD r [], fun r => f47H.getD r [], fun r i => ([] : List (Nat × Nat)).contains (r, i)⟩
theorem f47C : compF Go.Proofs.Try.prog f47A 47 = some f47 := by kernel_rfl

/-- slices.Contains[[]int,int] -/
abbrev f48o0 : List (Nat × Pop) := [
  (0, ⟨(some 4), .mv (.c (.t (.b false))), none⟩)]
abbrev f48r0 : Pc := .reg f48o0 [0, 1] []
abbrev f48o1 : List (Nat × Pop) := [
  (0, ⟨(some 5), .mv (.tmp 0), none⟩),
  (1, ⟨(some 6), .mv (.tmp 1), none⟩),
  (2, ⟨(some 7), .call 61 [(.tmp 5), (.tmp 6)], none⟩),
  (3, ⟨(some 8), .bin .geq (.tmp 7) (.c (.t (.i .i64 0))), none⟩),
  (4, ⟨(some 4), .mv (.tmp 8), none⟩)]
abbrev f48r1 : Pc := .reg f48o1 [4] []
abbrev f48b : Pc := (.seq f48r0 (.seq f48r1 .ret))
abbrev f48 : Pfn := ⟨2, 9, [.tmp 4], f48b⟩
def f48K : Array (List Nat) := #[[0, 1], [4]]
def f48H : Array (List Nat) := #[[], []]
def f48A : Ann := ⟨fun r => f48K.getD r [], fun r => f48H.getD r [], fun r i => ([] : List (Nat × Nat)).contains (r, i)⟩
theorem f48C : compF Go.Proofs.Try.prog f48A 48 = some f48 := by kernel_rfl

/-- switchboard/switchboardref02.Same -/
abbrev f49o0 : List (Nat × Pop) := [
  (0, ⟨(some 4), .mv (.c (.t (.b false))), none⟩)]
abbrev f49r0 : Pc := .reg f49o0 [0, 1] []
abbrev f49o1 : List (Nat × Pop) := [
  (0, ⟨(some 6), .mv (.tmp 0), none⟩),
  (1, ⟨(some 7), .lenL (.tmp 6), none⟩),
  (2, ⟨(some 8), .mv (.tmp 1), none⟩),
  (3, ⟨(some 9), .lenL (.tmp 8), none⟩),
  (4, ⟨(some 10), .bin .neq (.tmp 7) (.tmp 9), none⟩)]
abbrev f49r1 : Pc := .reg f49o1 [0, 1, 10] []
abbrev f49o2 : List (Nat × Pop) := [
  (0, ⟨(some 4), .mv (.c (.t (.b false))), none⟩)]
abbrev f49r2 : Pc := .reg f49o2 [4] []
abbrev f49o3 : List (Nat × Pop) := [
  (0, ⟨(some 5), .mv (.c (.t (.i .i64 0))), none⟩)]
abbrev f49r3 : Pc := .reg f49o3 [0, 1, 5] []
abbrev f49o4 : List (Nat × Pop) := [
  (0, ⟨(some 11), .mv (.tmp 5), none⟩),
  (1, ⟨(some 12), .mv (.tmp 0), none⟩),
  (2, ⟨(some 13), .lenL (.tmp 12), none⟩),
  (3, ⟨(some 14), .bin .lss (.tmp 11) (.tmp 13), none⟩)]
abbrev f49r4 : Pc := .reg f49o4 [0, 1, 5, 14] []
abbrev f49o6 : List (Nat × Pop) := [
  (0, ⟨(some 17), .mv (.tmp 0), none⟩),
  (1, ⟨(some 18), .mv (.tmp 5), none⟩),
  (2, ⟨(some 19), .ixS 1 (.tmp 17) (.tmp 18), none⟩),
  (3, ⟨(some 20), .load false 1 (.tmp 19), none⟩),
  (4, ⟨(some 21), .mv (.tmp 1), none⟩),
  (5, ⟨(some 22), .mv (.tmp 5), none⟩),
  (6, ⟨(some 23), .ixS 1 (.tmp 21) (.tmp 22), none⟩),
  (7, ⟨(some 24), .load false 1 (.tmp 23), none⟩),
  (8, ⟨(some 25), .bin .neq (.tmp 20) (.tmp 24), none⟩)]
abbrev f49r6 : Pc := .reg f49o6 [0, 1, 5, 25] []
abbrev f49o7 : List (Nat × Pop) := [
  (0, ⟨(some 4), .mv (.c (.t (.b false))), none⟩)]
abbrev f49r7 : Pc := .reg f49o7 [4] []
abbrev f49o5 : List (Nat × Pop) := [
  (0, ⟨(some 15), .mv (.tmp 5), none⟩),
  (1, ⟨(some 16), .bin .add (.tmp 15) (.c (.t (.i .i64 1))), none⟩),
  (2, ⟨(some 5), .mv (.tmp 16), none⟩)]
abbrev f49r5 : Pc := .reg f49o5 [0, 1, 5] []
def f49l0 : Pc := (.seq (.seq f49r4 (.cond (.tmp 14) .skip (.exit 0))) (.seq (.block 1 (.seq f49r6 (.cond (.tmp 25) (.seq f49r7 .ret) .skip))) f49r5))
theorem f49l0e (C : Cfg) (s : St) : evL C f49l0 s = evL C (.seq (.seq f49r4 (.cond (.tmp 14) .skip (.exit 0))) (.seq (.block 1 (.seq f49r6 (.cond (.tmp 25) (.seq f49r7 .ret) .skip))) f49r5)) s := rfl
abbrev f49o8 : List (Nat × Pop) := [
  (0, ⟨(some 4), .mv (.c (.t (.b true))), none⟩)]
abbrev f49r8 : Pc := .reg f49o8 [4] []
abbrev f49b : Pc := (.seq f49r0 (.seq (.seq f49r1 (.cond (.tmp 10) (.seq f49r2 .ret) .skip)) (.seq (.seq f49r3 (.block 0 (.loop f49l0))) (.seq f49r8 .ret))))
abbrev f49 : Pfn := ⟨2, 26, [.tmp 4], f49b⟩
def f49K : Array (List Nat) := #[[0, 1], [0, 1, 10], [4], [0, 1, 5], [0, 1, 5, 14], [0, 1, 5], [0, 1, 5, 25], [4], [4]]
def f49H : Array (List Nat) := #[[], [], [], [], [], [], [], [], []]
def f49A : Ann := ⟨fun r => f49K.getD r [], fun r => f49H.getD r [], fun r i => ([] : List (Nat × Nat)).contains (r, i)⟩
theorem f49C : compF Go.Proofs.Try.prog f49A 49 = some f49 := by kernel_rfl

/-- slices.Clone[[][]int,[]int] -/
abbrev f59o0 : List (Nat × Pop) := [
  (0, ⟨(some 2), .nilv 36 1, none⟩)]
abbrev f59r0 : Pc := .reg f59o0 [0] [2, 5, 7]
abbrev f59o1 : List (Nat × Pop) := [
  (0, ⟨(some 3), .mv (.tmp 0), none⟩),
  (1, ⟨(some 4), .isnilS false (.tmp 3), none⟩)]
abbrev f59r1 : Pc := .reg f59o1 [0, 4] []
abbrev f59o2 : List (Nat × Pop) := [
  (0, ⟨(some 2), .nilv 36 1, none⟩)]
abbrev f59r2 : Pc := .reg f59o2 [2] []
abbrev f59o3 : List (Nat × Pop) := [
  (0, ⟨(some 5), .bslO 36 1 [], none⟩),
  (1, ⟨(some 6), .mv (.tmp 0), none⟩),
  (2, ⟨(some 7), .app 36 1 24 (.tmp 5) (.tmp 6), none⟩),
  (3, ⟨(some 2), .mv (.tmp 7), none⟩)]
abbrev f59r3 : Pc := .reg f59o3 [2] []
abbrev f59b : Pc := (.seq f59r0 (.seq (.seq f59r1 (.cond (.tmp 4) (.seq f59r2 .ret) .skip)) (.seq f59r3 .ret)))
abbrev f59 : Pfn := ⟨1, 8, [.tmp 2], f59b⟩
def f59K : Array (List Nat) := #[[0], [0, 4], [2], [2]]
def f59H : Array (List Nat) := #[[2, 5, 7], [], [], []]
def f59A : Ann := ⟨fun r => f59K.getD r [], fun r => f59H.getD r [], fun r i => ([(3, 0)] : List (Nat × Nat)).contains (r, i)⟩
theorem f59C : compF Go.Proofs.Try.prog f59A 59 = some f59 := by kernel_rfl

/-- slices.IndexFunc[[]int,int] -/
abbrev f60o0 : List (Nat × Pop) := [
  (0, ⟨(some 4), .mv (.c (.t (.i .i64 0))), none⟩)]
abbrev f60r0 : Pc := .reg f60o0 [0, 1] []
abbrev f60o1 : List (Nat × Pop) := [
  (0, ⟨(some 6), .mv (.tmp 0), none⟩),
  (1, ⟨(some 7), .lenL (.tmp 6), none⟩),
  (2, ⟨(some 8), .mv (.c (.t (.i .i64 0))), none⟩)]
abbrev f60r1 : Pc := .reg f60o1 [0, 1, 7, 8] []
abbrev f60o2 : List (Nat × Pop) := [
  (0, ⟨(some 9), .bin .lss (.tmp 8) (.tmp 7), none⟩)]
abbrev f60r2 : Pc := .reg f60o2 [0, 1, 7, 8, 9] []
abbrev f60o3 : List (Nat × Pop) := [
  (0, ⟨(some 10), .mv (.tmp 8), none⟩),
  (1, ⟨(some 5), .mv (.tmp 10), none⟩)]
abbrev f60r3 : Pc := .reg f60o3 [0, 1, 5, 7, 8] []
abbrev f60o4 : List (Nat × Pop) := [
  (0, ⟨(some 11), .mv (.tmp 1), none⟩),
  (1, ⟨(some 12), .mv (.tmp 0), none⟩),
  (2, ⟨(some 13), .mv (.tmp 5), none⟩),
  (3, ⟨(some 14), .ixS 1 (.tmp 12) (.tmp 13), none⟩),
  (4, ⟨(some 15), .load false 1 (.tmp 14), none⟩),
  (5, ⟨(some 16), .callv (.tmp 11) [(.tmp 15)], none⟩)]
abbrev f60r4 : Pc := .reg f60o4 [0, 1, 5, 7, 8, 16] []
abbrev f60o5 : List (Nat × Pop) := [
  (0, ⟨(some 17), .mv (.tmp 5), none⟩),
  (1, ⟨(some 4), .mv (.tmp 17), none⟩)]
abbrev f60r5 : Pc := .reg f60o5 [4] []
abbrev f60o6 : List (Nat × Pop) := [
  (0, ⟨(some 18), .bin .add (.tmp 8) (.c (.t (.i .i64 1))), none⟩),
  (1, ⟨(some 8), .mv (.tmp 18), none⟩)]
abbrev f60r6 : Pc := .reg f60o6 [0, 1, 7, 8] []
def f60l0 : Pc := (.seq f60r2 (.seq (.cond (.tmp 9) .skip (.exit 0)) (.seq (.block 1 (.seq f60r3 (.seq f60r4 (.cond (.tmp 16) (.seq f60r5 .ret) .skip)))) f60r6)))
theorem f60l0e (C : Cfg) (s : St) : evL C f60l0 s = evL C (.seq f60r2 (.seq (.cond (.tmp 9) .skip (.exit 0)) (.seq (.block 1 (.seq f60r3 (.seq f60r4 (.cond (.tmp 16) (.seq f60r5 .ret) .skip)))) f60r6))) s := rfl
abbrev f60o7 : List (Nat × Pop) := [
  (0, ⟨(some 4), .mv (.c (.t (.i .i64 (-1)))), none⟩)]
abbrev f60r7 : Pc := .reg f60o7 [4] []
abbrev f60b : Pc := (.seq f60r0 (.seq (.seq f60r1 (.block 0 (.loop f60l0))) (.seq f60r7 .ret)))
abbrev f60 : Pfn := ⟨2, 19, [.tmp 4], f60b⟩
def f60K : Array (List Nat) := #[[0, 1], [0, 1, 7, 8], [0, 1, 7, 8, 9], [0, 1, 5, 7, 8], [0, 1, 5, 7, 8, 16], [4], [0, 1, 7, 8], [4]]
def f60H : Array (List Nat) := #[[], [], [], [], [], [], [], []]
def f60A : Ann := ⟨fun r => f60K.getD r [], fun r => f60H.getD r [], fun r i => ([] : List (Nat × Nat)).contains (r, i)⟩
theorem f60C : compF Go.Proofs.Try.prog f60A 60 = some f60 := by kernel_rfl

/-- slices.Index[[]int,int] -/
abbrev f61o0 : List (Nat × Pop) := [
  (0, ⟨(some 4), .mv (.c (.t (.i .i64 0))), none⟩)]
abbrev f61r0 : Pc := .reg f61o0 [0, 1] []
abbrev f61o1 : List (Nat × Pop) := [
  (0, ⟨(some 6), .mv (.tmp 0), none⟩),
  (1, ⟨(some 7), .lenL (.tmp 6), none⟩),
  (2, ⟨(some 8), .mv (.c (.t (.i .i64 0))), none⟩)]
abbrev f61r1 : Pc := .reg f61o1 [0, 1, 7, 8] []
abbrev f61o2 : List (Nat × Pop) := [
  (0, ⟨(some 9), .bin .lss (.tmp 8) (.tmp 7), none⟩)]
abbrev f61r2 : Pc := .reg f61o2 [0, 1, 7, 8, 9] []
abbrev f61o3 : List (Nat × Pop) := [
  (0, ⟨(some 10), .mv (.tmp 8), none⟩),
  (1, ⟨(some 5), .mv (.tmp 10), none⟩)]
abbrev f61r3 : Pc := .reg f61o3 [0, 1, 5, 7, 8] []
abbrev f61o4 : List (Nat × Pop) := [
  (0, ⟨(some 11), .mv (.tmp 1), none⟩),
  (1, ⟨(some 12), .mv (.tmp 0), none⟩),
  (2, ⟨(some 13), .mv (.tmp 5), none⟩),
  (3, ⟨(some 14), .ixS 1 (.tmp 12) (.tmp 13), none⟩),
  (4, ⟨(some 15), .load false 1 (.tmp 14), none⟩),
  (5, ⟨(some 16), .bin .eql (.tmp 11) (.tmp 15), none⟩)]
abbrev f61r4 : Pc := .reg f61o4 [0, 1, 5, 7, 8, 16] []
abbrev f61o5 : List (Nat × Pop) := [
  (0, ⟨(some 17), .mv (.tmp 5), none⟩),
  (1, ⟨(some 4), .mv (.tmp 17), none⟩)]
abbrev f61r5 : Pc := .reg f61o5 [4] []
abbrev f61o6 : List (Nat × Pop) := [
  (0, ⟨(some 18), .bin .add (.tmp 8) (.c (.t (.i .i64 1))), none⟩),
  (1, ⟨(some 8), .mv (.tmp 18), none⟩)]
abbrev f61r6 : Pc := .reg f61o6 [0, 1, 7, 8] []
def f61l0 : Pc := (.seq f61r2 (.seq (.cond (.tmp 9) .skip (.exit 0)) (.seq (.block 1 (.seq f61r3 (.seq f61r4 (.cond (.tmp 16) (.seq f61r5 .ret) .skip)))) f61r6)))
theorem f61l0e (C : Cfg) (s : St) : evL C f61l0 s = evL C (.seq f61r2 (.seq (.cond (.tmp 9) .skip (.exit 0)) (.seq (.block 1 (.seq f61r3 (.seq f61r4 (.cond (.tmp 16) (.seq f61r5 .ret) .skip)))) f61r6))) s := rfl
abbrev f61o7 : List (Nat × Pop) := [
  (0, ⟨(some 4), .mv (.c (.t (.i .i64 (-1)))), none⟩)]
abbrev f61r7 : Pc := .reg f61o7 [4] []
abbrev f61b : Pc := (.seq f61r0 (.seq (.seq f61r1 (.block 0 (.loop f61l0))) (.seq f61r7 .ret)))
abbrev f61 : Pfn := ⟨2, 19, [.tmp 4], f61b⟩
def f61K : Array (List Nat) := #[[0, 1], [0, 1, 7, 8], [0, 1, 7, 8, 9], [0, 1, 5, 7, 8], [0, 1, 5, 7, 8, 16], [4], [0, 1, 7, 8], [4]]
def f61H : Array (List Nat) := #[[], [], [], [], [], [], [], []]
def f61A : Ann := ⟨fun r => f61K.getD r [], fun r => f61H.getD r [], fun r i => ([] : List (Nat × Nat)).contains (r, i)⟩
theorem f61C : compF Go.Proofs.Try.prog f61A 61 = some f61 := by kernel_rfl


end Go.Proofs.Ythkehbdljckbdaa.Pv
