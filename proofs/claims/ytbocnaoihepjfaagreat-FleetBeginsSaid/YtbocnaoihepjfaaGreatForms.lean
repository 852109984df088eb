/- The functions' forms, as the pure evaluator takes them; each is what the program's code gives (kernel_rfl). -/
import Derived.Test.YtbocnaoihepjfaaGreatPevA
import Derived.Test.YtbocnaoihepjfaaGreatPevC
import Derived.Test.YtbocnaoihepjfaaGreatProg
import Derived.KernelRfl
namespace Go.Proofs.YtbocnaoihepjfaaGreat.Pv
open Go Go.Pev
/-- switchboard/switchboardlaw19.FleetBegins -/
abbrev f3o0 : List (Nat × Pop) := [
  (0, ⟨(some 3), .box 24 2 (.tmp 0), none⟩),
  (1, ⟨(some 4), .box 27 2 (.tmp 1), none⟩),
  (2, ⟨(some 6), .mv (.c (.t (.b false))), none⟩)]
abbrev f3r0 : Pc := .reg f3o0 [2, 3, 4] []
abbrev f3o1 : List (Nat × Pop) := [
  (0, ⟨(some 15), .load true 2 (.tmp 3), none⟩),
  (1, ⟨(some 16), .call 9 [(.tmp 15)], none⟩),
  (2, ⟨(some 17), .un .not (.tmp 16), none⟩),
  (3, ⟨(some 18), .mv (.tmp 17), none⟩),
  (4, ⟨(some 19), .fad 1 (.tmp 4), (some (18, false))⟩),
  (5, ⟨(some 20), .load false 1 (.tmp 19), (some (18, false))⟩),
  (6, ⟨(some 21), .call 10 [(.tmp 20)], (some (18, false))⟩),
  (7, ⟨(some 22), .un .not (.tmp 21), (some (18, false))⟩),
  (8, ⟨(some 23), .pick (.tmp 18) (.c (.t (.b true))) (.tmp 22), none⟩),
  (9, ⟨(some 24), .mv (.tmp 23), none⟩),
  (10, ⟨(some 25), .mv (.tmp 2), (some (24, false))⟩),
  (11, ⟨(some 26), .call 10 [(.tmp 25)], (some (24, false))⟩),
  (12, ⟨(some 27), .un .not (.tmp 26), (some (24, false))⟩),
  (13, ⟨(some 28), .pick (.tmp 24) (.c (.t (.b true))) (.tmp 27), none⟩)]
abbrev f3r1 : Pc := .reg f3o1 [2, 3, 4, 28] []
abbrev f3o2 : List (Nat × Pop) := [
  (0, ⟨(some 29), .call 11 [], none⟩),
  (1, ⟨(some 6), .mv (.tmp 29), none⟩)]
abbrev f3r2 : Pc := .reg f3o2 [6] []
abbrev f3o3 : List (Nat × Pop) := [
  (0, ⟨(some 31), .load true 2 (.tmp 3), none⟩),
  (1, ⟨(some 32), .load true 2 (.tmp 4), none⟩),
  (2, ⟨(some 33), .mv (.tmp 2), none⟩),
  (3, ⟨(some 34), .call 12 [(.tmp 31), (.tmp 32), (.tmp 33)], none⟩),
  (4, ⟨(some 30), .mv (.tmp 34), none⟩),
  (5, ⟨(some 35), .ext 0 (.tmp 30), none⟩),
  (6, ⟨(some 36), .ext 1 (.tmp 30), none⟩),
  (7, ⟨(some 7), .mv (.tmp 35), none⟩),
  (8, ⟨(some 8), .mv (.tmp 36), none⟩)]
abbrev f3r3 : Pc := .reg f3o3 [2, 3, 4, 7, 8] []
abbrev f3o4 : List (Nat × Pop) := [
  (0, ⟨(some 37), .load true 2 (.tmp 4), none⟩),
  (1, ⟨(some 9), .alloc 35 [(.t (.i .i64 0)), .nl], none⟩),
  (2, ⟨none, .store 2 (.tmp 9) (.tmp 37), none⟩)]
abbrev f3r4 : Pc := .reg f3o4 [2, 3, 7, 8, 9] []
abbrev f3o5 : List (Nat × Pop) := [
  (0, ⟨(some 38), .load true 2 (.tmp 3), none⟩),
  (1, ⟨(some 39), .load true 2 (.tmp 9), none⟩),
  (2, ⟨(some 40), .mv (.tmp 2), none⟩),
  (3, ⟨(some 41), .call 13 [(.tmp 38), (.tmp 39), (.tmp 40)], none⟩),
  (4, ⟨(some 42), .un .not (.tmp 41), none⟩)]
abbrev f3r5 : Pc := .reg f3o5 [2, 3, 7, 8, 9, 42] []
abbrev f3o6 : List (Nat × Pop) := [
  (0, ⟨(some 43), .mv (.tmp 7), none⟩),
  (1, ⟨(some 44), .isnilP false (.tmp 43), none⟩),
  (2, ⟨(some 45), .mv (.tmp 44), none⟩),
  (3, ⟨(some 46), .mv (.tmp 8), (some (45, true))⟩),
  (4, ⟨(some 47), .bin .eql (.tmp 46) (.c (.t (.i .i64 1))), (some (45, true))⟩),
  (5, ⟨(some 48), .pick (.tmp 45) (.tmp 47) (.c (.t (.b false))), none⟩),
  (6, ⟨(some 49), .mv (.tmp 48), none⟩),
  (7, ⟨(some 50), .call 11 [], (some (49, true))⟩),
  (8, ⟨(some 51), .pick (.tmp 49) (.tmp 50) (.c (.t (.b false))), none⟩),
  (9, ⟨(some 6), .mv (.tmp 51), none⟩)]
abbrev f3r6 : Pc := .reg f3o6 [6] []
abbrev f3o7 : List (Nat × Pop) := [
  (0, ⟨(some 52), .mv (.tmp 7), none⟩),
  (1, ⟨(some 53), .isnilP false (.tmp 52), none⟩),
  (2, ⟨(some 54), .mv (.tmp 53), none⟩),
  (3, ⟨(some 55), .mv (.tmp 8), (some (54, false))⟩),
  (4, ⟨(some 56), .bin .neq (.tmp 55) (.c (.t (.i .i64 0))), (some (54, false))⟩),
  (5, ⟨(some 57), .pick (.tmp 54) (.c (.t (.b true))) (.tmp 56), none⟩)]
abbrev f3r7 : Pc := .reg f3o7 [2, 3, 7, 9, 57] []
abbrev f3o8 : List (Nat × Pop) := [
  (0, ⟨(some 6), .mv (.c (.t (.b false))), none⟩)]
abbrev f3r8 : Pc := .reg f3o8 [6] []
abbrev f3o9 : List (Nat × Pop) := [
  (0, ⟨(some 58), .mv (.tmp 7), none⟩),
  (1, ⟨(some 59), .callq 14 [(.tmp 58)], none⟩),
  (2, ⟨(some 60), .load true 2 (.tmp 3), none⟩),
  (3, ⟨(some 61), .load true 2 (.tmp 9), none⟩),
  (4, ⟨(some 62), .mv (.tmp 2), none⟩),
  (5, ⟨(some 63), .callq 15 [(.tmp 60), (.tmp 61), (.tmp 62)], none⟩),
  (6, ⟨(some 10), .mv (.tmp 59), none⟩),
  (7, ⟨(some 11), .mv (.tmp 63), none⟩)]
abbrev f3r9 : Pc := .reg f3o9 [7, 10, 11] []
abbrev f3o10 : List (Nat × Pop) := [
  (0, ⟨(some 64), .mv (.tmp 10), none⟩),
  (1, ⟨(some 65), .lenL (.tmp 64), none⟩),
  (2, ⟨(some 66), .mv (.tmp 11), none⟩),
  (3, ⟨(some 67), .lenL (.tmp 66), none⟩),
  (4, ⟨(some 68), .bin .neq (.tmp 65) (.tmp 67), none⟩)]
abbrev f3r10 : Pc := .reg f3o10 [7, 10, 11, 68] []
abbrev f3o11 : List (Nat × Pop) := [
  (0, ⟨(some 6), .mv (.c (.t (.b false))), none⟩)]
abbrev f3r11 : Pc := .reg f3o11 [6] []
abbrev f3o12 : List (Nat × Pop) := [
  (0, ⟨(some 69), .mv (.tmp 10), none⟩),
  (1, ⟨(some 70), .lenL (.tmp 69), none⟩),
  (2, ⟨(some 71), .mv (.c (.t (.i .i64 0))), none⟩)]
abbrev f3r12 : Pc := .reg f3o12 [7, 10, 11, 70, 71] []
abbrev f3o13 : List (Nat × Pop) := [
  (0, ⟨(some 72), .bin .lss (.tmp 71) (.tmp 70), none⟩)]
abbrev f3r13 : Pc := .reg f3o13 [7, 10, 11, 70, 71, 72] []
abbrev f3o14 : List (Nat × Pop) := [
  (0, ⟨(some 73), .mv (.tmp 71), none⟩),
  (1, ⟨(some 12), .mv (.tmp 73), none⟩)]
abbrev f3r14 : Pc := .reg f3o14 [7, 10, 11, 12, 70, 71] []
abbrev f3o15 : List (Nat × Pop) := [
  (0, ⟨(some 74), .mv (.tmp 10), none⟩),
  (1, ⟨(some 75), .mv (.tmp 12), none⟩),
  (2, ⟨(some 76), .ixS 1 (.tmp 74) (.tmp 75), none⟩),
  (3, ⟨(some 77), .load false 1 (.tmp 76), none⟩),
  (4, ⟨(some 78), .mv (.tmp 11), none⟩),
  (5, ⟨(some 79), .mv (.tmp 12), none⟩),
  (6, ⟨(some 80), .ixS 11 (.tmp 78) (.tmp 79), none⟩),
  (7, ⟨(some 81), .load true 11 (.tmp 80), none⟩),
  (8, ⟨(some 82), .callq 16 [(.tmp 81)], none⟩),
  (9, ⟨(some 83), .bin .neq (.tmp 77) (.tmp 82), none⟩)]
abbrev f3r15 : Pc := .reg f3o15 [7, 10, 11, 70, 71, 83] []
abbrev f3o16 : List (Nat × Pop) := [
  (0, ⟨(some 6), .mv (.c (.t (.b false))), none⟩)]
abbrev f3r16 : Pc := .reg f3o16 [6] []
abbrev f3o17 : List (Nat × Pop) := [
  (0, ⟨(some 84), .bin .add (.tmp 71) (.c (.t (.i .i64 1))), none⟩),
  (1, ⟨(some 71), .mv (.tmp 84), none⟩)]
abbrev f3r17 : Pc := .reg f3o17 [7, 10, 11, 70, 71] []
def f3l0 : Pc := (.seq f3r13 (.seq (.cond (.tmp 72) .skip (.exit 0)) (.seq (.block 1 (.seq f3r14 (.seq f3r15 (.cond (.tmp 83) (.seq f3r16 .ret) .skip)))) f3r17)))
theorem f3l0e (C : Cfg) (s : St) : evL C f3l0 s = evL C (.seq f3r13 (.seq (.cond (.tmp 72) .skip (.exit 0)) (.seq (.block 1 (.seq f3r14 (.seq f3r15 (.cond (.tmp 83) (.seq f3r16 .ret) .skip)))) f3r17))) s := rfl
abbrev f3o18 : List (Nat × Pop) := [
  (0, ⟨(some 86), .mv (.tmp 7), none⟩),
  (1, ⟨(some 87), .call 17 [(.tmp 86)], none⟩),
  (2, ⟨(some 85), .mv (.tmp 87), none⟩),
  (3, ⟨(some 88), .ext 0 (.tmp 85), none⟩),
  (4, ⟨(some 89), .ext 1 (.tmp 85), none⟩),
  (5, ⟨(some 13), .mv (.tmp 88), none⟩),
  (6, ⟨(some 14), .mv (.tmp 89), none⟩)]
abbrev f3r18 : Pc := .reg f3o18 [7, 14] []
abbrev f3o19 : List (Nat × Pop) := [
  (0, ⟨(some 90), .mv (.tmp 14), none⟩),
  (1, ⟨(some 91), .un .not (.tmp 90), none⟩),
  (2, ⟨(some 92), .mv (.tmp 91), none⟩),
  (3, ⟨(some 93), .mv (.tmp 7), (some (92, true))⟩),
  (4, ⟨(some 94), .call 18 [(.tmp 93)], (some (92, true))⟩),
  (5, ⟨(some 95), .bin .eql (.tmp 94) (.c (.t (.i .i64 0))), (some (92, true))⟩),
  (6, ⟨(some 96), .pick (.tmp 92) (.tmp 95) (.c (.t (.b false))), none⟩),
  (7, ⟨(some 97), .mv (.tmp 96), none⟩),
  (8, ⟨(some 98), .call 11 [], (some (97, true))⟩),
  (9, ⟨(some 99), .pick (.tmp 97) (.tmp 98) (.c (.t (.b false))), none⟩),
  (10, ⟨(some 6), .mv (.tmp 99), none⟩)]
abbrev f3r19 : Pc := .reg f3o19 [6] []
abbrev f3b : Pc := (.seq f3r0 (.seq (.seq f3r1 (.cond (.tmp 28) (.seq f3r2 .ret) .skip)) (.seq f3r3 (.seq f3r4 (.seq (.seq f3r5 (.cond (.tmp 42) (.seq f3r6 .ret) .skip)) (.seq (.seq f3r7 (.cond (.tmp 57) (.seq f3r8 .ret) .skip)) (.seq f3r9 (.seq (.seq f3r10 (.cond (.tmp 68) (.seq f3r11 .ret) .skip)) (.seq (.seq f3r12 (.block 0 (.loop f3l0))) (.seq f3r18 (.seq f3r19 .ret)))))))))))
abbrev f3 : Pfn := ⟨3, 100, [.tmp 6], f3b⟩
def f3K : Array (List Nat) := #[[2, 3, 4], [2, 3, 4, 28], [6], [2, 3, 4, 7, 8], [2, 3, 7, 8, 9], [2, 3, 7, 8, 9, 42], [6], [2, 3, 7, 9, 57], [6], [7, 10, 11], [7, 10, 11, 68], [6], [7, 10, 11, 70, 71], [7, 10, 11, 70, 71, 72], [7, 10, 11, 12, 70, 71], [7, 10, 11, 70, 71, 83], [6], [7, 10, 11, 70, 71], [7, 14], [6]]
def f3H : Array (List Nat) := #[[], [], [], [], [], [], [], [], [], [], [], [], [], [], [], [], [], [], [], []]
def f3A : Ann := ⟨fun r => f3K.getD r [], fun r => f3H.getD r [], fun r i => ([] : List (Nat × Nat)).contains (r, i)⟩
theorem f3C : compF Go.Proofs.Tryz.prog f3A 3 = some f3 := by kernel_rfl

/-- switchboard/switchboardlaw19.FleetCounts -/
abbrev f4o0 : List (Nat × Pop) := [
  (0, ⟨(some 3), .box 24 2 (.tmp 0), none⟩),
  (1, ⟨(some 4), .box 27 2 (.tmp 1), none⟩),
  (2, ⟨(some 6), .mv (.c (.t (.b false))), none⟩)]
abbrev f4r0 : Pc := .reg f4o0 [2, 3, 4] []
abbrev f4o1 : List (Nat × Pop) := [
  (0, ⟨(some 15), .load true 2 (.tmp 3), none⟩),
  (1, ⟨(some 16), .call 9 [(.tmp 15)], none⟩),
  (2, ⟨(some 17), .un .not (.tmp 16), none⟩),
  (3, ⟨(some 18), .mv (.tmp 17), none⟩),
  (4, ⟨(some 19), .fad 1 (.tmp 4), (some (18, false))⟩),
  (5, ⟨(some 20), .load false 1 (.tmp 19), (some (18, false))⟩),
  (6, ⟨(some 21), .call 10 [(.tmp 20)], (some (18, false))⟩),
  (7, ⟨(some 22), .un .not (.tmp 21), (some (18, false))⟩),
  (8, ⟨(some 23), .pick (.tmp 18) (.c (.t (.b true))) (.tmp 22), none⟩),
  (9, ⟨(some 24), .mv (.tmp 23), none⟩),
  (10, ⟨(some 25), .mv (.tmp 2), (some (24, false))⟩),
  (11, ⟨(some 26), .call 10 [(.tmp 25)], (some (24, false))⟩),
  (12, ⟨(some 27), .un .not (.tmp 26), (some (24, false))⟩),
  (13, ⟨(some 28), .pick (.tmp 24) (.c (.t (.b true))) (.tmp 27), none⟩),
  (14, ⟨(some 29), .mv (.tmp 28), none⟩),
  (15, ⟨(some 30), .load true 2 (.tmp 3), (some (29, false))⟩),
  (16, ⟨(some 31), .load true 2 (.tmp 4), (some (29, false))⟩),
  (17, ⟨(some 32), .mv (.tmp 2), (some (29, false))⟩),
  (18, ⟨(some 33), .call 13 [(.tmp 30), (.tmp 31), (.tmp 32)], (some (29, false))⟩),
  (19, ⟨(some 34), .un .not (.tmp 33), (some (29, false))⟩),
  (20, ⟨(some 35), .pick (.tmp 29) (.c (.t (.b true))) (.tmp 34), none⟩)]
abbrev f4r1 : Pc := .reg f4o1 [2, 3, 4, 35] []
abbrev f4o2 : List (Nat × Pop) := [
  (0, ⟨(some 36), .call 11 [], none⟩),
  (1, ⟨(some 6), .mv (.tmp 36), none⟩)]
abbrev f4r2 : Pc := .reg f4o2 [6] []
abbrev f4o3 : List (Nat × Pop) := [
  (0, ⟨(some 38), .load true 2 (.tmp 3), none⟩),
  (1, ⟨(some 39), .load true 2 (.tmp 4), none⟩),
  (2, ⟨(some 40), .mv (.tmp 2), none⟩),
  (3, ⟨(some 41), .call 12 [(.tmp 38), (.tmp 39), (.tmp 40)], none⟩),
  (4, ⟨(some 37), .mv (.tmp 41), none⟩),
  (5, ⟨(some 42), .ext 0 (.tmp 37), none⟩),
  (6, ⟨(some 43), .ext 1 (.tmp 37), none⟩),
  (7, ⟨(some 7), .mv (.tmp 42), none⟩),
  (8, ⟨(some 8), .mv (.tmp 43), none⟩)]
abbrev f4r3 : Pc := .reg f4o3 [2, 3, 7] []
abbrev f4o4 : List (Nat × Pop) := [
  (0, ⟨(some 44), .mv (.tmp 7), none⟩),
  (1, ⟨(some 45), .isnilP false (.tmp 44), none⟩)]
abbrev f4r4 : Pc := .reg f4o4 [2, 3, 7, 45] []
abbrev f4o5 : List (Nat × Pop) := [
  (0, ⟨(some 6), .mv (.c (.t (.b false))), none⟩)]
abbrev f4r5 : Pc := .reg f4o5 [6] []
abbrev f4o6 : List (Nat × Pop) := [
  (0, ⟨(some 46), .mv (.tmp 2), none⟩),
  (1, ⟨(some 9), .mv (.c (.t (.i .i64 0))), none⟩),
  (2, ⟨(some 10), .mv (.tmp 46), none⟩)]
abbrev f4r6 : Pc := .reg f4o6 [3, 7, 9, 10] []
abbrev f4o7 : List (Nat × Pop) := [
  (0, ⟨(some 47), .fad 1 (.tmp 3), none⟩),
  (1, ⟨(some 48), .load false 1 (.tmp 47), none⟩),
  (2, ⟨(some 49), .lenL (.tmp 48), none⟩),
  (3, ⟨(some 50), .mv (.c (.t (.i .i64 0))), none⟩)]
abbrev f4r7 : Pc := .reg f4o7 [3, 7, 9, 10, 49, 50] []
abbrev f4o8 : List (Nat × Pop) := [
  (0, ⟨(some 51), .bin .lss (.tmp 50) (.tmp 49), none⟩)]
abbrev f4r8 : Pc := .reg f4o8 [3, 7, 9, 10, 49, 50, 51] []
abbrev f4o9 : List (Nat × Pop) := [
  (0, ⟨(some 52), .mv (.tmp 50), none⟩),
  (1, ⟨(some 11), .mv (.tmp 52), none⟩)]
abbrev f4r9 : Pc := .reg f4o9 [3, 7, 9, 10, 11, 49, 50] []
abbrev f4o10 : List (Nat × Pop) := [
  (0, ⟨(some 53), .mv (.tmp 9), none⟩),
  (1, ⟨(some 54), .fad 1 (.tmp 3), none⟩),
  (2, ⟨(some 55), .load false 1 (.tmp 54), none⟩),
  (3, ⟨(some 56), .mv (.tmp 11), none⟩),
  (4, ⟨(some 57), .ixS 3 (.tmp 55) (.tmp 56), none⟩),
  (5, ⟨(some 58), .load true 3 (.tmp 57), none⟩),
  (6, ⟨(some 59), .mv (.tmp 10), none⟩),
  (7, ⟨(some 60), .call 19 [(.tmp 58), (.tmp 59)], none⟩),
  (8, ⟨(some 61), .lenL (.tmp 60), none⟩),
  (9, ⟨(some 62), .bin .add (.tmp 53) (.tmp 61), none⟩),
  (10, ⟨(some 9), .mv (.tmp 62), none⟩)]
abbrev f4r10 : Pc := .reg f4o10 [3, 7, 9, 10, 11, 49, 50] []
abbrev f4o11 : List (Nat × Pop) := [
  (0, ⟨(some 63), .fad 0 (.tmp 3), none⟩),
  (1, ⟨(some 64), .load false 1 (.tmp 63), none⟩),
  (2, ⟨(some 65), .fad 1 (.tmp 3), none⟩),
  (3, ⟨(some 66), .load false 1 (.tmp 65), none⟩),
  (4, ⟨(some 67), .mv (.tmp 11), none⟩),
  (5, ⟨(some 68), .mv (.tmp 11), none⟩),
  (6, ⟨(some 69), .bin .add (.tmp 68) (.c (.t (.i .i64 1))), none⟩),
  (7, ⟨(some 70), .sls 3 (.tmp 66) (some (.tmp 67)) (some (.tmp 69)), none⟩),
  (8, ⟨(some 71), .build [(.t (.i .i64 0)), .nl] [(0, 1, (.tmp 64)), (1, 1, (.tmp 70))], none⟩),
  (9, ⟨(some 72), .mv (.tmp 10), none⟩),
  (10, ⟨(some 73), .callq 20 [(.tmp 71), (.tmp 72)], none⟩),
  (11, ⟨(some 10), .mv (.tmp 73), none⟩)]
abbrev f4r11 : Pc := .reg f4o11 [3, 7, 9, 10, 49, 50] []
abbrev f4o12 : List (Nat × Pop) := [
  (0, ⟨(some 74), .bin .add (.tmp 50) (.c (.t (.i .i64 1))), none⟩),
  (1, ⟨(some 50), .mv (.tmp 74), none⟩)]
abbrev f4r12 : Pc := .reg f4o12 [3, 7, 9, 10, 49, 50] []
def f4l0 : Pc := (.seq f4r8 (.seq (.cond (.tmp 51) .skip (.exit 0)) (.seq (.block 1 (.seq f4r9 (.seq f4r10 f4r11))) f4r12)))
theorem f4l0e (C : Cfg) (s : St) : evL C f4l0 s = evL C (.seq f4r8 (.seq (.cond (.tmp 51) .skip (.exit 0)) (.seq (.block 1 (.seq f4r9 (.seq f4r10 f4r11))) f4r12))) s := rfl
abbrev f4o13 : List (Nat × Pop) := [
  (0, ⟨(some 12), .mv (.c (.t (.i .i64 0))), none⟩)]
abbrev f4r13 : Pc := .reg f4o13 [7, 9, 10, 12] []
abbrev f4o14 : List (Nat × Pop) := [
  (0, ⟨(some 75), .mv (.tmp 12), none⟩),
  (1, ⟨(some 76), .bin .lss (.tmp 75) (.c (.t (.i .i64 1000))), none⟩),
  (2, ⟨(some 77), .mv (.tmp 76), none⟩),
  (3, ⟨(some 78), .mv (.tmp 7), (some (77, true))⟩),
  (4, ⟨(some 79), .call 21 [(.tmp 78), (.c (.t (.i .i64 0)))], (some (77, true))⟩),
  (5, ⟨(some 80), .bin .eql (.tmp 79) (.c (.t (.i .i64 0))), (some (77, true))⟩),
  (6, ⟨(some 81), .pick (.tmp 77) (.tmp 80) (.c (.t (.b false))), none⟩)]
abbrev f4r14 : Pc := .reg f4o14 [7, 9, 10, 12, 81] []
abbrev f4o15 : List (Nat × Pop) := [
  (0, ⟨(some 82), .mv (.tmp 12), none⟩),
  (1, ⟨(some 83), .bin .add (.tmp 82) (.c (.t (.i .i64 1))), none⟩),
  (2, ⟨(some 12), .mv (.tmp 83), none⟩)]
abbrev f4r15 : Pc := .reg f4o15 [7, 9, 10, 12] []
def f4l1 : Pc := (.seq (.seq f4r14 (.cond (.tmp 81) .skip (.exit 2))) (.block 3 f4r15))
theorem f4l1e (C : Cfg) (s : St) : evL C f4l1 s = evL C (.seq (.seq f4r14 (.cond (.tmp 81) .skip (.exit 2))) (.block 3 f4r15)) s := rfl
abbrev f4o16 : List (Nat × Pop) := [
  (0, ⟨(some 85), .mv (.tmp 7), none⟩),
  (1, ⟨(some 86), .call 17 [(.tmp 85)], none⟩),
  (2, ⟨(some 84), .mv (.tmp 86), none⟩),
  (3, ⟨(some 87), .ext 0 (.tmp 84), none⟩),
  (4, ⟨(some 88), .ext 1 (.tmp 84), none⟩),
  (5, ⟨(some 13), .mv (.tmp 87), none⟩),
  (6, ⟨(some 14), .mv (.tmp 88), none⟩)]
abbrev f4r16 : Pc := .reg f4o16 [7, 9, 10, 12, 13, 14] []
abbrev f4o17 : List (Nat × Pop) := [
  (0, ⟨(some 89), .mv (.tmp 14), none⟩),
  (1, ⟨(some 90), .mv (.tmp 89), none⟩),
  (2, ⟨(some 91), .mv (.tmp 13), (some (90, true))⟩),
  (3, ⟨(some 92), .mv (.tmp 10), (some (90, true))⟩),
  (4, ⟨(some 93), .call 22 [(.tmp 91), (.tmp 92)], (some (90, true))⟩),
  (5, ⟨(some 94), .pick (.tmp 90) (.tmp 93) (.c (.t (.b false))), none⟩),
  (6, ⟨(some 95), .mv (.tmp 94), none⟩),
  (7, ⟨(some 96), .mv (.tmp 7), (some (95, true))⟩),
  (8, ⟨(some 97), .call 18 [(.tmp 96)], (some (95, true))⟩),
  (9, ⟨(some 98), .mv (.tmp 9), (some (95, true))⟩),
  (10, ⟨(some 99), .bin .eql (.tmp 97) (.tmp 98), (some (95, true))⟩),
  (11, ⟨(some 100), .pick (.tmp 95) (.tmp 99) (.c (.t (.b false))), none⟩),
  (12, ⟨(some 101), .mv (.tmp 100), none⟩),
  (13, ⟨(some 102), .mv (.tmp 12), (some (101, true))⟩),
  (14, ⟨(some 103), .mv (.tmp 9), (some (101, true))⟩),
  (15, ⟨(some 104), .bin .mul (.c (.t (.i .i64 2))) (.tmp 103), (some (101, true))⟩),
  (16, ⟨(some 105), .bin .eql (.tmp 102) (.tmp 104), (some (101, true))⟩),
  (17, ⟨(some 106), .pick (.tmp 101) (.tmp 105) (.c (.t (.b false))), none⟩),
  (18, ⟨(some 107), .mv (.tmp 106), none⟩),
  (19, ⟨(some 108), .call 11 [], (some (107, true))⟩),
  (20, ⟨(some 109), .pick (.tmp 107) (.tmp 108) (.c (.t (.b false))), none⟩),
  (21, ⟨(some 6), .mv (.tmp 109), none⟩)]
abbrev f4r17 : Pc := .reg f4o17 [6] []
abbrev f4b : Pc := (.seq f4r0 (.seq (.seq f4r1 (.cond (.tmp 35) (.seq f4r2 .ret) .skip)) (.seq f4r3 (.seq (.seq f4r4 (.cond (.tmp 45) (.seq f4r5 .ret) .skip)) (.seq f4r6 (.seq (.seq f4r7 (.block 0 (.loop f4l0))) (.seq f4r13 (.seq (.block 2 (.loop f4l1)) (.seq f4r16 (.seq f4r17 .ret))))))))))
abbrev f4 : Pfn := ⟨3, 110, [.tmp 6], f4b⟩
def f4K : Array (List Nat) := #[[2, 3, 4], [2, 3, 4, 35], [6], [2, 3, 7], [2, 3, 7, 45], [6], [3, 7, 9, 10], [3, 7, 9, 10, 49, 50], [3, 7, 9, 10, 49, 50, 51], [3, 7, 9, 10, 11, 49, 50], [3, 7, 9, 10, 11, 49, 50], [3, 7, 9, 10, 49, 50], [3, 7, 9, 10, 49, 50], [7, 9, 10, 12], [7, 9, 10, 12, 81], [7, 9, 10, 12], [7, 9, 10, 12, 13, 14], [6]]
def f4H : Array (List Nat) := #[[], [], [], [], [], [], [], [], [], [], [], [], [], [], [], [], [], []]
def f4A : Ann := ⟨fun r => f4K.getD r [], fun r => f4H.getD r [], fun r i => ([] : List (Nat × Nat)).contains (r, i)⟩
theorem f4C : compF Go.Proofs.Tryz.prog f4A 4 = some f4 := by kernel_rfl

/-- switchboard/switchboardlaw19.FleetMaps -/
abbrev f5o0 : List (Nat × Pop) := [
  (0, ⟨(some 5), .box 24 2 (.tmp 0), none⟩),
  (1, ⟨(some 6), .box 27 2 (.tmp 1), none⟩),
  (2, ⟨(some 10), .mv (.c (.t (.b false))), none⟩)]
abbrev f5r0 : Pc := .reg f5o0 [2, 3, 4, 5, 6] []
abbrev f5o1 : List (Nat × Pop) := [
  (0, ⟨(some 22), .load true 2 (.tmp 5), none⟩),
  (1, ⟨(some 23), .call 9 [(.tmp 22)], none⟩),
  (2, ⟨(some 24), .un .not (.tmp 23), none⟩),
  (3, ⟨(some 25), .mv (.tmp 24), none⟩),
  (4, ⟨(some 26), .fad 1 (.tmp 6), (some (25, false))⟩),
  (5, ⟨(some 27), .load false 1 (.tmp 26), (some (25, false))⟩),
  (6, ⟨(some 28), .call 10 [(.tmp 27)], (some (25, false))⟩),
  (7, ⟨(some 29), .un .not (.tmp 28), (some (25, false))⟩),
  (8, ⟨(some 30), .pick (.tmp 25) (.c (.t (.b true))) (.tmp 29), none⟩),
  (9, ⟨(some 31), .mv (.tmp 30), none⟩),
  (10, ⟨(some 32), .mv (.tmp 2), (some (31, false))⟩),
  (11, ⟨(some 33), .call 10 [(.tmp 32)], (some (31, false))⟩),
  (12, ⟨(some 34), .un .not (.tmp 33), (some (31, false))⟩),
  (13, ⟨(some 35), .pick (.tmp 31) (.c (.t (.b true))) (.tmp 34), none⟩),
  (14, ⟨(some 36), .mv (.tmp 35), none⟩),
  (15, ⟨(some 37), .load true 2 (.tmp 5), (some (36, false))⟩),
  (16, ⟨(some 38), .load true 2 (.tmp 6), (some (36, false))⟩),
  (17, ⟨(some 39), .mv (.tmp 2), (some (36, false))⟩),
  (18, ⟨(some 40), .call 13 [(.tmp 37), (.tmp 38), (.tmp 39)], (some (36, false))⟩),
  (19, ⟨(some 41), .un .not (.tmp 40), (some (36, false))⟩),
  (20, ⟨(some 42), .pick (.tmp 36) (.c (.t (.b true))) (.tmp 41), none⟩)]
abbrev f5r1 : Pc := .reg f5o1 [2, 3, 4, 5, 6, 42] []
abbrev f5o2 : List (Nat × Pop) := [
  (0, ⟨(some 43), .call 11 [], none⟩),
  (1, ⟨(some 10), .mv (.tmp 43), none⟩)]
abbrev f5r2 : Pc := .reg f5o2 [10] []
abbrev f5o3 : List (Nat × Pop) := [
  (0, ⟨(some 45), .load true 2 (.tmp 5), none⟩),
  (1, ⟨(some 46), .load true 2 (.tmp 6), none⟩),
  (2, ⟨(some 47), .mv (.tmp 2), none⟩),
  (3, ⟨(some 48), .call 12 [(.tmp 45), (.tmp 46), (.tmp 47)], none⟩),
  (4, ⟨(some 44), .mv (.tmp 48), none⟩),
  (5, ⟨(some 49), .ext 0 (.tmp 44), none⟩),
  (6, ⟨(some 50), .ext 1 (.tmp 44), none⟩),
  (7, ⟨(some 11), .mv (.tmp 49), none⟩),
  (8, ⟨(some 12), .mv (.tmp 50), none⟩)]
abbrev f5r3 : Pc := .reg f5o3 [3, 4, 6, 11] []
abbrev f5o4 : List (Nat × Pop) := [
  (0, ⟨(some 51), .mv (.tmp 11), none⟩),
  (1, ⟨(some 52), .isnilP false (.tmp 51), none⟩)]
abbrev f5r4 : Pc := .reg f5o4 [3, 4, 6, 11, 52] []
abbrev f5o5 : List (Nat × Pop) := [
  (0, ⟨(some 10), .mv (.c (.t (.b false))), none⟩)]
abbrev f5r5 : Pc := .reg f5o5 [10] []
abbrev f5o6 : List (Nat × Pop) := [
  (0, ⟨(some 53), .mv (.tmp 11), none⟩),
  (1, ⟨(some 54), .call 14 [(.tmp 53)], none⟩),
  (2, ⟨(some 13), .mv (.tmp 54), none⟩)]
abbrev f5r6 : Pc := .reg f5o6 [3, 4, 6, 11, 13] []
abbrev f5o7 : List (Nat × Pop) := [
  (0, ⟨(some 56), .load true 2 (.tmp 6), none⟩),
  (1, ⟨(some 57), .mv (.tmp 3), none⟩),
  (2, ⟨(some 58), .mv (.tmp 4), none⟩),
  (3, ⟨(some 59), .call 23 [(.tmp 56), (.tmp 57), (.tmp 58)], none⟩),
  (4, ⟨(some 55), .mv (.tmp 59), none⟩),
  (5, ⟨(some 60), .ext 0 (.tmp 55), none⟩),
  (6, ⟨(some 61), .ext 1 (.tmp 55), none⟩),
  (7, ⟨(some 14), .alloc 27 [(.t (.i .i64 0)), .nl], none⟩),
  (8, ⟨none, .store 2 (.tmp 14) (.tmp 60), none⟩),
  (9, ⟨(some 15), .mv (.tmp 61), none⟩)]
abbrev f5r7 : Pc := .reg f5o7 [3, 4, 11, 13, 14, 15] []
abbrev f5o8 : List (Nat × Pop) := [
  (0, ⟨(some 63), .load true 2 (.tmp 14), none⟩),
  (1, ⟨(some 64), .mv (.tmp 3), none⟩),
  (2, ⟨(some 65), .mv (.tmp 4), none⟩),
  (3, ⟨(some 66), .call 24 [(.tmp 63), (.tmp 64), (.tmp 65)], none⟩),
  (4, ⟨(some 62), .mv (.tmp 66), none⟩),
  (5, ⟨(some 67), .ext 0 (.tmp 62), none⟩),
  (6, ⟨(some 68), .ext 1 (.tmp 62), none⟩),
  (7, ⟨(some 16), .alloc 27 [(.t (.i .i64 0)), .nl], none⟩),
  (8, ⟨none, .store 2 (.tmp 16) (.tmp 67), none⟩),
  (9, ⟨(some 17), .mv (.tmp 68), none⟩)]
abbrev f5r8 : Pc := .reg f5o8 [3, 4, 11, 13, 15, 17] []
abbrev f5o9 : List (Nat × Pop) := [
  (0, ⟨(some 69), .mv (.tmp 11), none⟩),
  (1, ⟨(some 70), .mv (.tmp 3), none⟩),
  (2, ⟨(some 71), .mv (.tmp 4), none⟩),
  (3, ⟨(some 72), .call 25 [(.tmp 69), (.tmp 70), (.tmp 71)], none⟩),
  (4, ⟨(some 73), .mv (.tmp 11), none⟩),
  (5, ⟨(some 74), .mv (.tmp 3), none⟩),
  (6, ⟨(some 75), .mv (.tmp 4), none⟩),
  (7, ⟨(some 76), .call 26 [(.tmp 73), (.tmp 74), (.tmp 75)], none⟩),
  (8, ⟨(some 18), .mv (.tmp 72), none⟩),
  (9, ⟨(some 19), .mv (.tmp 76), none⟩)]
abbrev f5r9 : Pc := .reg f5o9 [11, 13, 15, 17, 18, 19] []
abbrev f5o10 : List (Nat × Pop) := [
  (0, ⟨(some 77), .mv (.tmp 11), none⟩),
  (1, ⟨(some 78), .call 14 [(.tmp 77)], none⟩),
  (2, ⟨(some 20), .mv (.tmp 78), none⟩)]
abbrev f5r10 : Pc := .reg f5o10 [13, 15, 17, 18, 19, 20] []
abbrev f5o11 : List (Nat × Pop) := [
  (0, ⟨(some 79), .mv (.tmp 18), none⟩),
  (1, ⟨(some 80), .mv (.tmp 15), none⟩),
  (2, ⟨(some 81), .bin .neq (.tmp 79) (.tmp 80), none⟩),
  (3, ⟨(some 82), .mv (.tmp 81), none⟩),
  (4, ⟨(some 83), .mv (.tmp 19), (some (82, false))⟩),
  (5, ⟨(some 84), .mv (.tmp 17), (some (82, false))⟩),
  (6, ⟨(some 85), .bin .neq (.tmp 83) (.tmp 84), (some (82, false))⟩),
  (7, ⟨(some 86), .pick (.tmp 82) (.c (.t (.b true))) (.tmp 85), none⟩),
  (8, ⟨(some 87), .mv (.tmp 86), none⟩),
  (9, ⟨(some 88), .mv (.tmp 13), (some (87, false))⟩),
  (10, ⟨(some 89), .lenL (.tmp 88), (some (87, false))⟩),
  (11, ⟨(some 90), .mv (.tmp 20), (some (87, false))⟩),
  (12, ⟨(some 91), .lenL (.tmp 90), (some (87, false))⟩),
  (13, ⟨(some 92), .bin .neq (.tmp 89) (.tmp 91), (some (87, false))⟩),
  (14, ⟨(some 93), .pick (.tmp 87) (.c (.t (.b true))) (.tmp 92), none⟩)]
abbrev f5r11 : Pc := .reg f5o11 [13, 20, 93] []
abbrev f5o12 : List (Nat × Pop) := [
  (0, ⟨(some 10), .mv (.c (.t (.b false))), none⟩)]
abbrev f5r12 : Pc := .reg f5o12 [10] []
abbrev f5o13 : List (Nat × Pop) := [
  (0, ⟨(some 94), .mv (.tmp 13), none⟩),
  (1, ⟨(some 95), .lenL (.tmp 94), none⟩),
  (2, ⟨(some 96), .mv (.c (.t (.i .i64 0))), none⟩)]
abbrev f5r13 : Pc := .reg f5o13 [13, 20, 95, 96] []
abbrev f5o14 : List (Nat × Pop) := [
  (0, ⟨(some 97), .bin .lss (.tmp 96) (.tmp 95), none⟩)]
abbrev f5r14 : Pc := .reg f5o14 [13, 20, 95, 96, 97] []
abbrev f5o15 : List (Nat × Pop) := [
  (0, ⟨(some 98), .mv (.tmp 96), none⟩),
  (1, ⟨(some 21), .mv (.tmp 98), none⟩)]
abbrev f5r15 : Pc := .reg f5o15 [13, 20, 21, 95, 96] []
abbrev f5o16 : List (Nat × Pop) := [
  (0, ⟨(some 99), .mv (.tmp 13), none⟩),
  (1, ⟨(some 100), .mv (.tmp 21), none⟩),
  (2, ⟨(some 101), .ixS 1 (.tmp 99) (.tmp 100), none⟩),
  (3, ⟨(some 102), .load false 1 (.tmp 101), none⟩),
  (4, ⟨(some 103), .mv (.tmp 20), none⟩),
  (5, ⟨(some 104), .mv (.tmp 21), none⟩),
  (6, ⟨(some 105), .ixS 1 (.tmp 103) (.tmp 104), none⟩),
  (7, ⟨(some 106), .load false 1 (.tmp 105), none⟩),
  (8, ⟨(some 107), .bin .neq (.tmp 102) (.tmp 106), none⟩)]
abbrev f5r16 : Pc := .reg f5o16 [13, 20, 95, 96, 107] []
abbrev f5o17 : List (Nat × Pop) := [
  (0, ⟨(some 10), .mv (.c (.t (.b false))), none⟩)]
abbrev f5r17 : Pc := .reg f5o17 [10] []
abbrev f5o18 : List (Nat × Pop) := [
  (0, ⟨(some 108), .bin .add (.tmp 96) (.c (.t (.i .i64 1))), none⟩),
  (1, ⟨(some 96), .mv (.tmp 108), none⟩)]
abbrev f5r18 : Pc := .reg f5o18 [13, 20, 95, 96] []
def f5l0 : Pc := (.seq f5r14 (.seq (.cond (.tmp 97) .skip (.exit 0)) (.seq (.block 1 (.seq f5r15 (.seq f5r16 (.cond (.tmp 107) (.seq f5r17 .ret) .skip)))) f5r18)))
theorem f5l0e (C : Cfg) (s : St) : evL C f5l0 s = evL C (.seq f5r14 (.seq (.cond (.tmp 97) .skip (.exit 0)) (.seq (.block 1 (.seq f5r15 (.seq f5r16 (.cond (.tmp 107) (.seq f5r17 .ret) .skip)))) f5r18))) s := rfl
abbrev f5o19 : List (Nat × Pop) := [
  (0, ⟨(some 109), .call 11 [], none⟩),
  (1, ⟨(some 10), .mv (.tmp 109), none⟩)]
abbrev f5r19 : Pc := .reg f5o19 [10] []
abbrev f5b : Pc := (.seq f5r0 (.seq (.seq f5r1 (.cond (.tmp 42) (.seq f5r2 .ret) .skip)) (.seq f5r3 (.seq (.seq f5r4 (.cond (.tmp 52) (.seq f5r5 .ret) .skip)) (.seq f5r6 (.seq f5r7 (.seq f5r8 (.seq f5r9 (.seq f5r10 (.seq (.seq f5r11 (.cond (.tmp 93) (.seq f5r12 .ret) .skip)) (.seq (.seq f5r13 (.block 0 (.loop f5l0))) (.seq f5r19 .ret))))))))))))
abbrev f5 : Pfn := ⟨5, 110, [.tmp 10], f5b⟩
def f5K : Array (List Nat) := #[[2, 3, 4, 5, 6], [2, 3, 4, 5, 6, 42], [10], [3, 4, 6, 11], [3, 4, 6, 11, 52], [10], [3, 4, 6, 11, 13], [3, 4, 11, 13, 14, 15], [3, 4, 11, 13, 15, 17], [11, 13, 15, 17, 18, 19], [13, 15, 17, 18, 19, 20], [13, 20, 93], [10], [13, 20, 95, 96], [13, 20, 95, 96, 97], [13, 20, 21, 95, 96], [13, 20, 95, 96, 107], [10], [13, 20, 95, 96], [10]]
def f5H : Array (List Nat) := #[[], [], [], [], [], [], [], [], [], [], [], [], [], [], [], [], [], [], [], []]
def f5A : Ann := ⟨fun r => f5K.getD r [], fun r => f5H.getD r [], fun r i => ([] : List (Nat × Nat)).contains (r, i)⟩
theorem f5C : compF Go.Proofs.Tryz.prog f5A 5 = some f5 := by kernel_rfl

/-- switchboard/switchboardlaw19.FleetTrue -/
abbrev f6o0 : List (Nat × Pop) := [
  (0, ⟨(some 4), .box 24 2 (.tmp 0), none⟩),
  (1, ⟨(some 5), .box 27 2 (.tmp 1), none⟩),
  (2, ⟨(some 8), .mv (.c (.t (.b false))), none⟩)]
abbrev f6r0 : Pc := .reg f6o0 [2, 3, 4, 5] []
abbrev f6o1 : List (Nat × Pop) := [
  (0, ⟨(some 15), .load true 2 (.tmp 4), none⟩),
  (1, ⟨(some 16), .call 9 [(.tmp 15)], none⟩),
  (2, ⟨(some 17), .un .not (.tmp 16), none⟩),
  (3, ⟨(some 18), .mv (.tmp 17), none⟩),
  (4, ⟨(some 19), .fad 1 (.tmp 5), (some (18, false))⟩),
  (5, ⟨(some 20), .load false 1 (.tmp 19), (some (18, false))⟩),
  (6, ⟨(some 21), .call 10 [(.tmp 20)], (some (18, false))⟩),
  (7, ⟨(some 22), .un .not (.tmp 21), (some (18, false))⟩),
  (8, ⟨(some 23), .pick (.tmp 18) (.c (.t (.b true))) (.tmp 22), none⟩),
  (9, ⟨(some 24), .mv (.tmp 23), none⟩),
  (10, ⟨(some 25), .mv (.tmp 2), (some (24, false))⟩),
  (11, ⟨(some 26), .call 10 [(.tmp 25)], (some (24, false))⟩),
  (12, ⟨(some 27), .un .not (.tmp 26), (some (24, false))⟩),
  (13, ⟨(some 28), .pick (.tmp 24) (.c (.t (.b true))) (.tmp 27), none⟩),
  (14, ⟨(some 29), .mv (.tmp 28), none⟩),
  (15, ⟨(some 30), .load true 2 (.tmp 4), (some (29, false))⟩),
  (16, ⟨(some 31), .load true 2 (.tmp 5), (some (29, false))⟩),
  (17, ⟨(some 32), .mv (.tmp 2), (some (29, false))⟩),
  (18, ⟨(some 33), .call 13 [(.tmp 30), (.tmp 31), (.tmp 32)], (some (29, false))⟩),
  (19, ⟨(some 34), .un .not (.tmp 33), (some (29, false))⟩),
  (20, ⟨(some 35), .pick (.tmp 29) (.c (.t (.b true))) (.tmp 34), none⟩)]
abbrev f6r1 : Pc := .reg f6o1 [2, 3, 4, 5, 35] []
abbrev f6o2 : List (Nat × Pop) := [
  (0, ⟨(some 36), .call 11 [], none⟩),
  (1, ⟨(some 8), .mv (.tmp 36), none⟩)]
abbrev f6r2 : Pc := .reg f6o2 [8] []
abbrev f6o3 : List (Nat × Pop) := [
  (0, ⟨(some 38), .load true 2 (.tmp 4), none⟩),
  (1, ⟨(some 39), .load true 2 (.tmp 5), none⟩),
  (2, ⟨(some 40), .mv (.tmp 2), none⟩),
  (3, ⟨(some 41), .call 12 [(.tmp 38), (.tmp 39), (.tmp 40)], none⟩),
  (4, ⟨(some 37), .mv (.tmp 41), none⟩),
  (5, ⟨(some 42), .ext 0 (.tmp 37), none⟩),
  (6, ⟨(some 43), .ext 1 (.tmp 37), none⟩),
  (7, ⟨(some 9), .mv (.tmp 42), none⟩),
  (8, ⟨(some 10), .mv (.tmp 43), none⟩)]
abbrev f6r3 : Pc := .reg f6o3 [2, 3, 4, 9, 10] []
abbrev f6o4 : List (Nat × Pop) := [
  (0, ⟨(some 44), .mv (.tmp 9), none⟩),
  (1, ⟨(some 45), .isnilP false (.tmp 44), none⟩),
  (2, ⟨(some 46), .mv (.tmp 45), none⟩),
  (3, ⟨(some 47), .mv (.tmp 10), (some (46, false))⟩),
  (4, ⟨(some 48), .bin .neq (.tmp 47) (.c (.t (.i .i64 0))), (some (46, false))⟩),
  (5, ⟨(some 49), .pick (.tmp 46) (.c (.t (.b true))) (.tmp 48), none⟩)]
abbrev f6r4 : Pc := .reg f6o4 [2, 3, 4, 9, 49] []
abbrev f6o5 : List (Nat × Pop) := [
  (0, ⟨(some 8), .mv (.c (.t (.b false))), none⟩)]
abbrev f6r5 : Pc := .reg f6o5 [8] []
abbrev f6o6 : List (Nat × Pop) := [
  (0, ⟨(some 50), .load true 2 (.tmp 4), none⟩),
  (1, ⟨(some 51), .mv (.tmp 2), none⟩),
  (2, ⟨(some 52), .call 20 [(.tmp 50), (.tmp 51)], none⟩),
  (3, ⟨(some 11), .mv (.tmp 52), none⟩)]
abbrev f6r6 : Pc := .reg f6o6 [3, 9, 11] []
abbrev f6o7 : List (Nat × Pop) := [
  (0, ⟨(some 12), .mv (.c (.t (.i .i64 0))), none⟩)]
abbrev f6r7 : Pc := .reg f6o7 [3, 9, 11, 12] []
abbrev f6o8 : List (Nat × Pop) := [
  (0, ⟨(some 53), .mv (.tmp 12), none⟩),
  (1, ⟨(some 54), .mv (.tmp 3), none⟩),
  (2, ⟨(some 55), .lenL (.tmp 54), none⟩),
  (3, ⟨(some 56), .bin .lss (.tmp 53) (.tmp 55), none⟩),
  (4, ⟨(some 57), .mv (.tmp 56), none⟩),
  (5, ⟨(some 58), .mv (.tmp 12), (some (57, true))⟩),
  (6, ⟨(some 59), .bin .lss (.tmp 58) (.c (.t (.i .i64 200))), (some (57, true))⟩),
  (7, ⟨(some 60), .pick (.tmp 57) (.tmp 59) (.c (.t (.b false))), none⟩)]
abbrev f6r8 : Pc := .reg f6o8 [3, 9, 11, 12, 60] []
abbrev f6o10 : List (Nat × Pop) := [
  (0, ⟨(some 63), .mv (.tmp 9), none⟩),
  (1, ⟨(some 64), .mv (.tmp 3), none⟩),
  (2, ⟨(some 65), .mv (.tmp 12), none⟩),
  (3, ⟨(some 66), .ixS 3 (.tmp 64) (.tmp 65), none⟩),
  (4, ⟨(some 67), .load true 3 (.tmp 66), none⟩),
  (5, ⟨(some 68), .call 27 [(.tmp 63), (.tmp 67)], none⟩)]
abbrev f6r10 : Pc := .reg f6o10 [3, 9, 11, 12] []
abbrev f6o11 : List (Nat × Pop) := [
  (0, ⟨(some 70), .mv (.tmp 9), none⟩),
  (1, ⟨(some 71), .call 17 [(.tmp 70)], none⟩),
  (2, ⟨(some 69), .mv (.tmp 71), none⟩),
  (3, ⟨(some 72), .ext 0 (.tmp 69), none⟩),
  (4, ⟨(some 73), .ext 1 (.tmp 69), none⟩),
  (5, ⟨(some 13), .mv (.tmp 72), none⟩),
  (6, ⟨(some 14), .mv (.tmp 73), none⟩)]
abbrev f6r11 : Pc := .reg f6o11 [3, 9, 11, 12, 13, 14] []
abbrev f6o12 : List (Nat × Pop) := [
  (0, ⟨(some 74), .mv (.tmp 14), none⟩),
  (1, ⟨(some 75), .mv (.tmp 74), none⟩),
  (2, ⟨(some 76), .mv (.tmp 13), (some (75, true))⟩),
  (3, ⟨(some 77), .mv (.tmp 11), (some (75, true))⟩),
  (4, ⟨(some 78), .call 22 [(.tmp 76), (.tmp 77)], (some (75, true))⟩),
  (5, ⟨(some 79), .un .not (.tmp 78), (some (75, true))⟩),
  (6, ⟨(some 80), .pick (.tmp 75) (.tmp 79) (.c (.t (.b false))), none⟩),
  (7, ⟨(some 81), .mv (.tmp 80), none⟩),
  (8, ⟨(some 82), .mv (.tmp 14), (some (81, false))⟩),
  (9, ⟨(some 83), .un .not (.tmp 82), (some (81, false))⟩),
  (10, ⟨(some 84), .mv (.tmp 83), (some (81, false))⟩),
  (11, ⟨(some 85), .mv (.tmp 13), (some (84, true))⟩),
  (12, ⟨(some 86), .lenL (.tmp 85), (some (84, true))⟩),
  (13, ⟨(some 87), .bin .neq (.tmp 86) (.c (.t (.i .i64 0))), (some (84, true))⟩),
  (14, ⟨(some 88), .pick (.tmp 84) (.tmp 87) (.c (.t (.b false))), (some (81, false))⟩),
  (15, ⟨(some 89), .pick (.tmp 81) (.c (.t (.b true))) (.tmp 88), none⟩),
  (16, ⟨(some 90), .mv (.tmp 89), none⟩),
  (17, ⟨(some 91), .mv (.tmp 9), (some (90, false))⟩),
  (18, ⟨(some 92), .call 14 [(.tmp 91)], (some (90, false))⟩),
  (19, ⟨(some 93), .lenL (.tmp 92), (some (90, false))⟩),
  (20, ⟨(some 94), .bin .gtr (.tmp 93) (.c (.t (.i .i64 200))), (some (90, false))⟩),
  (21, ⟨(some 95), .pick (.tmp 90) (.c (.t (.b true))) (.tmp 94), none⟩)]
abbrev f6r12 : Pc := .reg f6o12 [3, 9, 11, 12, 95] []
abbrev f6o13 : List (Nat × Pop) := [
  (0, ⟨(some 8), .mv (.c (.t (.b false))), none⟩)]
abbrev f6r13 : Pc := .reg f6o13 [8] []
abbrev f6o9 : List (Nat × Pop) := [
  (0, ⟨(some 61), .mv (.tmp 12), none⟩),
  (1, ⟨(some 62), .bin .add (.tmp 61) (.c (.t (.i .i64 1))), none⟩),
  (2, ⟨(some 12), .mv (.tmp 62), none⟩)]
abbrev f6r9 : Pc := .reg f6o9 [3, 9, 11, 12] []
def f6l0 : Pc := (.seq (.seq f6r8 (.cond (.tmp 60) .skip (.exit 0))) (.seq (.block 1 (.seq f6r10 (.seq f6r11 (.seq f6r12 (.cond (.tmp 95) (.seq f6r13 .ret) .skip))))) f6r9))
theorem f6l0e (C : Cfg) (s : St) : evL C f6l0 s = evL C (.seq (.seq f6r8 (.cond (.tmp 60) .skip (.exit 0))) (.seq (.block 1 (.seq f6r10 (.seq f6r11 (.seq f6r12 (.cond (.tmp 95) (.seq f6r13 .ret) .skip))))) f6r9)) s := rfl
abbrev f6o14 : List (Nat × Pop) := [
  (0, ⟨(some 96), .call 11 [], none⟩),
  (1, ⟨(some 8), .mv (.tmp 96), none⟩)]
abbrev f6r14 : Pc := .reg f6o14 [8] []
abbrev f6b : Pc := (.seq f6r0 (.seq (.seq f6r1 (.cond (.tmp 35) (.seq f6r2 .ret) .skip)) (.seq f6r3 (.seq (.seq f6r4 (.cond (.tmp 49) (.seq f6r5 .ret) .skip)) (.seq f6r6 (.seq (.seq f6r7 (.block 0 (.loop f6l0))) (.seq f6r14 .ret)))))))
abbrev f6 : Pfn := ⟨4, 97, [.tmp 8], f6b⟩
def f6K : Array (List Nat) := #[[2, 3, 4, 5], [2, 3, 4, 5, 35], [8], [2, 3, 4, 9, 10], [2, 3, 4, 9, 49], [8], [3, 9, 11], [3, 9, 11, 12], [3, 9, 11, 12, 60], [3, 9, 11, 12], [3, 9, 11, 12], [3, 9, 11, 12, 13, 14], [3, 9, 11, 12, 95], [8], [8]]
def f6H : Array (List Nat) := #[[], [], [], [], [], [], [], [], [], [], [], [], [], [], []]
def f6A : Ann := ⟨fun r => f6K.getD r [], fun r => f6H.getD r [], fun r i => ([] : List (Nat × Nat)).contains (r, i)⟩
theorem f6C : compF Go.Proofs.Tryz.prog f6A 6 = some f6 := by kernel_rfl

/-- switchboard/switchboardlaw19.FleetEnds -/
abbrev f7o0 : List (Nat × Pop) := [
  (0, ⟨(some 4), .box 24 2 (.tmp 0), none⟩),
  (1, ⟨(some 5), .box 27 2 (.tmp 1), none⟩),
  (2, ⟨(some 8), .mv (.c (.t (.b false))), none⟩)]
abbrev f7r0 : Pc := .reg f7o0 [2, 3, 4, 5] []
abbrev f7o1 : List (Nat × Pop) := [
  (0, ⟨(some 14), .load true 2 (.tmp 4), none⟩),
  (1, ⟨(some 15), .call 9 [(.tmp 14)], none⟩),
  (2, ⟨(some 16), .un .not (.tmp 15), none⟩),
  (3, ⟨(some 17), .mv (.tmp 16), none⟩),
  (4, ⟨(some 18), .fad 1 (.tmp 5), (some (17, false))⟩),
  (5, ⟨(some 19), .load false 1 (.tmp 18), (some (17, false))⟩),
  (6, ⟨(some 20), .call 10 [(.tmp 19)], (some (17, false))⟩),
  (7, ⟨(some 21), .un .not (.tmp 20), (some (17, false))⟩),
  (8, ⟨(some 22), .pick (.tmp 17) (.c (.t (.b true))) (.tmp 21), none⟩),
  (9, ⟨(some 23), .mv (.tmp 22), none⟩),
  (10, ⟨(some 24), .mv (.tmp 2), (some (23, false))⟩),
  (11, ⟨(some 25), .call 10 [(.tmp 24)], (some (23, false))⟩),
  (12, ⟨(some 26), .un .not (.tmp 25), (some (23, false))⟩),
  (13, ⟨(some 27), .pick (.tmp 23) (.c (.t (.b true))) (.tmp 26), none⟩),
  (14, ⟨(some 28), .mv (.tmp 27), none⟩),
  (15, ⟨(some 29), .load true 2 (.tmp 4), (some (28, false))⟩),
  (16, ⟨(some 30), .load true 2 (.tmp 5), (some (28, false))⟩),
  (17, ⟨(some 31), .mv (.tmp 2), (some (28, false))⟩),
  (18, ⟨(some 32), .call 13 [(.tmp 29), (.tmp 30), (.tmp 31)], (some (28, false))⟩),
  (19, ⟨(some 33), .un .not (.tmp 32), (some (28, false))⟩),
  (20, ⟨(some 34), .pick (.tmp 28) (.c (.t (.b true))) (.tmp 33), none⟩)]
abbrev f7r1 : Pc := .reg f7o1 [2, 3, 4, 5, 34] []
abbrev f7o2 : List (Nat × Pop) := [
  (0, ⟨(some 35), .call 11 [], none⟩),
  (1, ⟨(some 8), .mv (.tmp 35), none⟩)]
abbrev f7r2 : Pc := .reg f7o2 [8] []
abbrev f7o3 : List (Nat × Pop) := [
  (0, ⟨(some 37), .load true 2 (.tmp 4), none⟩),
  (1, ⟨(some 38), .load true 2 (.tmp 5), none⟩),
  (2, ⟨(some 39), .mv (.tmp 2), none⟩),
  (3, ⟨(some 40), .call 12 [(.tmp 37), (.tmp 38), (.tmp 39)], none⟩),
  (4, ⟨(some 36), .mv (.tmp 40), none⟩),
  (5, ⟨(some 41), .ext 0 (.tmp 36), none⟩),
  (6, ⟨(some 42), .ext 1 (.tmp 36), none⟩),
  (7, ⟨(some 9), .mv (.tmp 41), none⟩),
  (8, ⟨(some 10), .mv (.tmp 42), none⟩)]
abbrev f7r3 : Pc := .reg f7o3 [2, 3, 4, 9, 10] []
abbrev f7o4 : List (Nat × Pop) := [
  (0, ⟨(some 43), .mv (.tmp 9), none⟩),
  (1, ⟨(some 44), .isnilP false (.tmp 43), none⟩),
  (2, ⟨(some 45), .mv (.tmp 44), none⟩),
  (3, ⟨(some 46), .mv (.tmp 10), (some (45, false))⟩),
  (4, ⟨(some 47), .bin .neq (.tmp 46) (.c (.t (.i .i64 0))), (some (45, false))⟩),
  (5, ⟨(some 48), .pick (.tmp 45) (.c (.t (.b true))) (.tmp 47), none⟩)]
abbrev f7r4 : Pc := .reg f7o4 [2, 3, 4, 9, 48] []
abbrev f7o5 : List (Nat × Pop) := [
  (0, ⟨(some 8), .mv (.c (.t (.b false))), none⟩)]
abbrev f7r5 : Pc := .reg f7o5 [8] []
abbrev f7o6 : List (Nat × Pop) := [
  (0, ⟨(some 11), .mv (.c (.t (.i .i64 0))), none⟩)]
abbrev f7r6 : Pc := .reg f7o6 [2, 3, 4, 9, 11] []
abbrev f7o7 : List (Nat × Pop) := [
  (0, ⟨(some 49), .mv (.tmp 11), none⟩),
  (1, ⟨(some 50), .mv (.tmp 3), none⟩),
  (2, ⟨(some 51), .lenL (.tmp 50), none⟩),
  (3, ⟨(some 52), .bin .lss (.tmp 49) (.tmp 51), none⟩),
  (4, ⟨(some 53), .mv (.tmp 52), none⟩),
  (5, ⟨(some 54), .mv (.tmp 11), (some (53, true))⟩),
  (6, ⟨(some 55), .bin .lss (.tmp 54) (.c (.t (.i .i64 200))), (some (53, true))⟩),
  (7, ⟨(some 56), .pick (.tmp 53) (.tmp 55) (.c (.t (.b false))), none⟩)]
abbrev f7r7 : Pc := .reg f7o7 [2, 3, 4, 9, 11, 56] []
abbrev f7o9 : List (Nat × Pop) := [
  (0, ⟨(some 59), .mv (.tmp 9), none⟩),
  (1, ⟨(some 60), .mv (.tmp 3), none⟩),
  (2, ⟨(some 61), .mv (.tmp 11), none⟩),
  (3, ⟨(some 62), .ixS 3 (.tmp 60) (.tmp 61), none⟩),
  (4, ⟨(some 63), .load true 3 (.tmp 62), none⟩),
  (5, ⟨(some 64), .call 27 [(.tmp 59), (.tmp 63)], none⟩)]
abbrev f7r9 : Pc := .reg f7o9 [2, 3, 4, 9, 11] []
abbrev f7o8 : List (Nat × Pop) := [
  (0, ⟨(some 57), .mv (.tmp 11), none⟩),
  (1, ⟨(some 58), .bin .add (.tmp 57) (.c (.t (.i .i64 1))), none⟩),
  (2, ⟨(some 11), .mv (.tmp 58), none⟩)]
abbrev f7r8 : Pc := .reg f7o8 [2, 3, 4, 9, 11] []
def f7l0 : Pc := (.seq (.seq f7r7 (.cond (.tmp 56) .skip (.exit 0))) (.seq (.block 1 f7r9) f7r8))
theorem f7l0e (C : Cfg) (s : St) : evL C f7l0 s = evL C (.seq (.seq f7r7 (.cond (.tmp 56) .skip (.exit 0))) (.seq (.block 1 f7r9) f7r8)) s := rfl
abbrev f7o10 : List (Nat × Pop) := [
  (0, ⟨(some 65), .fad 1 (.tmp 4), none⟩),
  (1, ⟨(some 66), .load false 1 (.tmp 65), none⟩),
  (2, ⟨(some 67), .lenL (.tmp 66), none⟩),
  (3, ⟨(some 68), .bin .add (.tmp 67) (.c (.t (.i .i64 1))), none⟩),
  (4, ⟨(some 69), .mv (.c (.t (.i .i64 0))), none⟩)]
abbrev f7r10 : Pc := .reg f7o10 [2, 4, 9, 68, 69] []
abbrev f7o11 : List (Nat × Pop) := [
  (0, ⟨(some 70), .bin .lss (.tmp 69) (.tmp 68), none⟩)]
abbrev f7r11 : Pc := .reg f7o11 [2, 4, 9, 68, 69, 70] []
abbrev f7o12 : List (Nat × Pop) := [
  (0, ⟨(some 71), .mv (.c (.t (.i .i64 0))), none⟩)]
abbrev f7r12 : Pc := .reg f7o12 [2, 4, 9, 68, 69, 71] []
abbrev f7o13 : List (Nat × Pop) := [
  (0, ⟨(some 72), .bin .lss (.tmp 71) (.c (.t (.i .i64 2000))), none⟩)]
abbrev f7r13 : Pc := .reg f7o13 [2, 4, 9, 68, 69, 71, 72] []
abbrev f7o14 : List (Nat × Pop) := [
  (0, ⟨(some 73), .mv (.tmp 9), none⟩),
  (1, ⟨(some 74), .call 21 [(.tmp 73), (.c (.t (.i .i64 0)))], none⟩),
  (2, ⟨(some 75), .bin .neq (.tmp 74) (.c (.t (.i .i64 0))), none⟩)]
abbrev f7r14 : Pc := .reg f7o14 [2, 4, 9, 68, 69, 71, 75] []
abbrev f7o15 : List (Nat × Pop) := [
  (0, ⟨(some 76), .bin .add (.tmp 71) (.c (.t (.i .i64 1))), none⟩),
  (1, ⟨(some 71), .mv (.tmp 76), none⟩)]
abbrev f7r15 : Pc := .reg f7o15 [2, 4, 9, 68, 69, 71] []
def f7l1 : Pc := (.seq f7r13 (.seq (.cond (.tmp 72) .skip (.exit 4)) (.seq (.block 5 (.seq f7r14 (.cond (.tmp 75) (.exit 4) .skip))) f7r15)))
theorem f7l1e (C : Cfg) (s : St) : evL C f7l1 s = evL C (.seq f7r13 (.seq (.cond (.tmp 72) .skip (.exit 4)) (.seq (.block 5 (.seq f7r14 (.cond (.tmp 75) (.exit 4) .skip))) f7r15))) s := rfl
abbrev f7o16 : List (Nat × Pop) := [
  (0, ⟨(some 77), .mv (.tmp 9), none⟩),
  (1, ⟨(some 78), .call 28 [(.tmp 77)], none⟩)]
abbrev f7r16 : Pc := .reg f7o16 [2, 4, 9, 68, 69] []
abbrev f7o17 : List (Nat × Pop) := [
  (0, ⟨(some 79), .bin .add (.tmp 69) (.c (.t (.i .i64 1))), none⟩),
  (1, ⟨(some 69), .mv (.tmp 79), none⟩)]
abbrev f7r17 : Pc := .reg f7o17 [2, 4, 9, 68, 69] []
def f7l2 : Pc := (.seq f7r11 (.seq (.cond (.tmp 70) .skip (.exit 2)) (.seq (.block 3 (.seq (.seq f7r12 (.block 4 (.loop f7l1))) f7r16)) f7r17)))
theorem f7l2e (C : Cfg) (s : St) : evL C f7l2 s = evL C (.seq f7r11 (.seq (.cond (.tmp 70) .skip (.exit 2)) (.seq (.block 3 (.seq (.seq f7r12 (.block 4 (.loop f7l1))) f7r16)) f7r17))) s := rfl
abbrev f7o18 : List (Nat × Pop) := [
  (0, ⟨(some 80), .mv (.c (.t (.i .i64 0))), none⟩)]
abbrev f7r18 : Pc := .reg f7o18 [2, 4, 9, 80] []
abbrev f7o19 : List (Nat × Pop) := [
  (0, ⟨(some 81), .bin .lss (.tmp 80) (.c (.t (.i .i64 2000))), none⟩)]
abbrev f7r19 : Pc := .reg f7o19 [2, 4, 9, 80, 81] []
abbrev f7o20 : List (Nat × Pop) := [
  (0, ⟨(some 82), .mv (.tmp 9), none⟩),
  (1, ⟨(some 83), .call 21 [(.tmp 82), (.c (.t (.i .i64 0)))], none⟩),
  (2, ⟨(some 84), .bin .neq (.tmp 83) (.c (.t (.i .i64 0))), none⟩)]
abbrev f7r20 : Pc := .reg f7o20 [2, 4, 9, 80, 84] []
abbrev f7o21 : List (Nat × Pop) := [
  (0, ⟨(some 85), .bin .add (.tmp 80) (.c (.t (.i .i64 1))), none⟩),
  (1, ⟨(some 80), .mv (.tmp 85), none⟩)]
abbrev f7r21 : Pc := .reg f7o21 [2, 4, 9, 80] []
def f7l3 : Pc := (.seq f7r19 (.seq (.cond (.tmp 81) .skip (.exit 6)) (.seq (.block 7 (.seq f7r20 (.cond (.tmp 84) (.exit 6) .skip))) f7r21)))
theorem f7l3e (C : Cfg) (s : St) : evL C f7l3 s = evL C (.seq f7r19 (.seq (.cond (.tmp 81) .skip (.exit 6)) (.seq (.block 7 (.seq f7r20 (.cond (.tmp 84) (.exit 6) .skip))) f7r21))) s := rfl
abbrev f7o22 : List (Nat × Pop) := [
  (0, ⟨(some 87), .mv (.tmp 9), none⟩),
  (1, ⟨(some 88), .call 17 [(.tmp 87)], none⟩),
  (2, ⟨(some 86), .mv (.tmp 88), none⟩),
  (3, ⟨(some 89), .ext 0 (.tmp 86), none⟩),
  (4, ⟨(some 90), .ext 1 (.tmp 86), none⟩),
  (5, ⟨(some 12), .mv (.tmp 89), none⟩),
  (6, ⟨(some 13), .mv (.tmp 90), none⟩)]
abbrev f7r22 : Pc := .reg f7o22 [2, 4, 9, 12, 13] []
abbrev f7o23 : List (Nat × Pop) := [
  (0, ⟨(some 91), .mv (.tmp 13), none⟩),
  (1, ⟨(some 92), .mv (.tmp 91), none⟩),
  (2, ⟨(some 93), .mv (.tmp 12), (some (92, true))⟩),
  (3, ⟨(some 94), .load true 2 (.tmp 4), (some (92, true))⟩),
  (4, ⟨(some 95), .mv (.tmp 2), (some (92, true))⟩),
  (5, ⟨(some 96), .callq 20 [(.tmp 94), (.tmp 95)], (some (92, true))⟩),
  (6, ⟨(some 97), .callq 22 [(.tmp 93), (.tmp 96)], (some (92, true))⟩),
  (7, ⟨(some 98), .pick (.tmp 92) (.tmp 97) (.c (.t (.b false))), none⟩),
  (8, ⟨(some 99), .mv (.tmp 98), none⟩),
  (9, ⟨(some 100), .mv (.tmp 9), (some (99, true))⟩),
  (10, ⟨(some 101), .callq 18 [(.tmp 100)], (some (99, true))⟩),
  (11, ⟨(some 102), .mv (.tmp 2), (some (99, true))⟩),
  (12, ⟨(some 103), .lenL (.tmp 102), (some (99, true))⟩),
  (13, ⟨(some 104), .bin .mul (.c (.t (.i .i64 8))) (.tmp 103), (some (99, true))⟩),
  (14, ⟨(some 105), .fad 1 (.tmp 4), (some (99, true))⟩),
  (15, ⟨(some 106), .load false 1 (.tmp 105), (some (99, true))⟩),
  (16, ⟨(some 107), .lenL (.tmp 106), (some (99, true))⟩),
  (17, ⟨(some 108), .bin .mul (.tmp 104) (.tmp 107), (some (99, true))⟩),
  (18, ⟨(some 109), .bin .leq (.tmp 101) (.tmp 108), (some (99, true))⟩),
  (19, ⟨(some 110), .pick (.tmp 99) (.tmp 109) (.c (.t (.b false))), none⟩),
  (20, ⟨(some 111), .mv (.tmp 110), none⟩),
  (21, ⟨(some 112), .callq 11 [], (some (111, true))⟩),
  (22, ⟨(some 113), .pick (.tmp 111) (.tmp 112) (.c (.t (.b false))), none⟩),
  (23, ⟨(some 8), .mv (.tmp 113), none⟩)]
abbrev f7r23 : Pc := .reg f7o23 [8] []
abbrev f7b : Pc := (.seq f7r0 (.seq (.seq f7r1 (.cond (.tmp 34) (.seq f7r2 .ret) .skip)) (.seq f7r3 (.seq (.seq f7r4 (.cond (.tmp 48) (.seq f7r5 .ret) .skip)) (.seq (.seq f7r6 (.block 0 (.loop f7l0))) (.seq (.seq f7r10 (.block 2 (.loop f7l2))) (.seq (.seq f7r18 (.block 6 (.loop f7l3))) (.seq f7r22 (.seq f7r23 .ret)))))))))
abbrev f7 : Pfn := ⟨4, 114, [.tmp 8], f7b⟩
def f7K : Array (List Nat) := #[[2, 3, 4, 5], [2, 3, 4, 5, 34], [8], [2, 3, 4, 9, 10], [2, 3, 4, 9, 48], [8], [2, 3, 4, 9, 11], [2, 3, 4, 9, 11, 56], [2, 3, 4, 9, 11], [2, 3, 4, 9, 11], [2, 4, 9, 68, 69], [2, 4, 9, 68, 69, 70], [2, 4, 9, 68, 69, 71], [2, 4, 9, 68, 69, 71, 72], [2, 4, 9, 68, 69, 71, 75], [2, 4, 9, 68, 69, 71], [2, 4, 9, 68, 69], [2, 4, 9, 68, 69], [2, 4, 9, 80], [2, 4, 9, 80, 81], [2, 4, 9, 80, 84], [2, 4, 9, 80], [2, 4, 9, 12, 13], [8]]
def f7H : Array (List Nat) := #[[], [], [], [], [], [], [], [], [], [], [], [], [], [], [], [], [], [], [], [], [], [], [], []]
def f7A : Ann := ⟨fun r => f7K.getD r [], fun r => f7H.getD r [], fun r i => ([] : List (Nat × Nat)).contains (r, i)⟩
theorem f7C : compF Go.Proofs.Tryz.prog f7A 7 = some f7 := by kernel_rfl

/-- switchboard/switchboardlaw19.FleetSame -/
abbrev f8o0 : List (Nat × Pop) := [
  (0, ⟨(some 4), .box 24 2 (.tmp 0), none⟩),
  (1, ⟨(some 5), .box 27 2 (.tmp 1), none⟩),
  (2, ⟨(some 8), .mv (.c (.t (.b false))), none⟩)]
abbrev f8r0 : Pc := .reg f8o0 [2, 3, 4, 5] []
abbrev f8o1 : List (Nat × Pop) := [
  (0, ⟨(some 21), .load true 2 (.tmp 4), none⟩),
  (1, ⟨(some 22), .call 9 [(.tmp 21)], none⟩),
  (2, ⟨(some 23), .un .not (.tmp 22), none⟩),
  (3, ⟨(some 24), .mv (.tmp 23), none⟩),
  (4, ⟨(some 25), .fad 1 (.tmp 5), (some (24, false))⟩),
  (5, ⟨(some 26), .load false 1 (.tmp 25), (some (24, false))⟩),
  (6, ⟨(some 27), .call 10 [(.tmp 26)], (some (24, false))⟩),
  (7, ⟨(some 28), .un .not (.tmp 27), (some (24, false))⟩),
  (8, ⟨(some 29), .pick (.tmp 24) (.c (.t (.b true))) (.tmp 28), none⟩),
  (9, ⟨(some 30), .mv (.tmp 29), none⟩),
  (10, ⟨(some 31), .mv (.tmp 2), (some (30, false))⟩),
  (11, ⟨(some 32), .call 10 [(.tmp 31)], (some (30, false))⟩),
  (12, ⟨(some 33), .un .not (.tmp 32), (some (30, false))⟩),
  (13, ⟨(some 34), .pick (.tmp 30) (.c (.t (.b true))) (.tmp 33), none⟩),
  (14, ⟨(some 35), .mv (.tmp 34), none⟩),
  (15, ⟨(some 36), .load true 2 (.tmp 4), (some (35, false))⟩),
  (16, ⟨(some 37), .load true 2 (.tmp 5), (some (35, false))⟩),
  (17, ⟨(some 38), .mv (.tmp 2), (some (35, false))⟩),
  (18, ⟨(some 39), .call 13 [(.tmp 36), (.tmp 37), (.tmp 38)], (some (35, false))⟩),
  (19, ⟨(some 40), .un .not (.tmp 39), (some (35, false))⟩),
  (20, ⟨(some 41), .pick (.tmp 35) (.c (.t (.b true))) (.tmp 40), none⟩)]
abbrev f8r1 : Pc := .reg f8o1 [2, 3, 4, 5, 41] []
abbrev f8o2 : List (Nat × Pop) := [
  (0, ⟨(some 42), .call 11 [], none⟩),
  (1, ⟨(some 8), .mv (.tmp 42), none⟩)]
abbrev f8r2 : Pc := .reg f8o2 [8] []
abbrev f8o3 : List (Nat × Pop) := [
  (0, ⟨(some 44), .load true 2 (.tmp 4), none⟩),
  (1, ⟨(some 45), .load true 2 (.tmp 5), none⟩),
  (2, ⟨(some 46), .mv (.tmp 2), none⟩),
  (3, ⟨(some 47), .call 12 [(.tmp 44), (.tmp 45), (.tmp 46)], none⟩),
  (4, ⟨(some 43), .mv (.tmp 47), none⟩),
  (5, ⟨(some 48), .ext 0 (.tmp 43), none⟩),
  (6, ⟨(some 49), .ext 1 (.tmp 43), none⟩),
  (7, ⟨(some 9), .mv (.tmp 48), none⟩),
  (8, ⟨(some 10), .mv (.tmp 49), none⟩)]
abbrev f8r3 : Pc := .reg f8o3 [2, 3, 4, 5, 9] []
abbrev f8o4 : List (Nat × Pop) := [
  (0, ⟨(some 51), .load true 2 (.tmp 4), none⟩),
  (1, ⟨(some 52), .load true 2 (.tmp 5), none⟩),
  (2, ⟨(some 53), .mv (.tmp 2), none⟩),
  (3, ⟨(some 54), .call 12 [(.tmp 51), (.tmp 52), (.tmp 53)], none⟩),
  (4, ⟨(some 50), .mv (.tmp 54), none⟩),
  (5, ⟨(some 55), .ext 0 (.tmp 50), none⟩),
  (6, ⟨(some 56), .ext 1 (.tmp 50), none⟩),
  (7, ⟨(some 11), .mv (.tmp 55), none⟩),
  (8, ⟨(some 12), .mv (.tmp 56), none⟩)]
abbrev f8r4 : Pc := .reg f8o4 [3, 9, 11] []
abbrev f8o5 : List (Nat × Pop) := [
  (0, ⟨(some 57), .mv (.tmp 9), none⟩),
  (1, ⟨(some 58), .isnilP false (.tmp 57), none⟩),
  (2, ⟨(some 59), .mv (.tmp 58), none⟩),
  (3, ⟨(some 60), .mv (.tmp 11), (some (59, false))⟩),
  (4, ⟨(some 61), .isnilP false (.tmp 60), (some (59, false))⟩),
  (5, ⟨(some 62), .pick (.tmp 59) (.c (.t (.b true))) (.tmp 61), none⟩)]
abbrev f8r5 : Pc := .reg f8o5 [3, 9, 11, 62] []
abbrev f8o6 : List (Nat × Pop) := [
  (0, ⟨(some 8), .mv (.c (.t (.b false))), none⟩)]
abbrev f8r6 : Pc := .reg f8o6 [8] []
abbrev f8o7 : List (Nat × Pop) := [
  (0, ⟨(some 13), .mv (.c (.t (.i .i64 0))), none⟩)]
abbrev f8r7 : Pc := .reg f8o7 [3, 9, 11, 13] []
abbrev f8o8 : List (Nat × Pop) := [
  (0, ⟨(some 63), .mv (.tmp 13), none⟩),
  (1, ⟨(some 64), .mv (.tmp 3), none⟩),
  (2, ⟨(some 65), .lenL (.tmp 64), none⟩),
  (3, ⟨(some 66), .bin .lss (.tmp 63) (.tmp 65), none⟩),
  (4, ⟨(some 67), .mv (.tmp 66), none⟩),
  (5, ⟨(some 68), .mv (.tmp 13), (some (67, true))⟩),
  (6, ⟨(some 69), .bin .lss (.tmp 68) (.c (.t (.i .i64 100))), (some (67, true))⟩),
  (7, ⟨(some 70), .pick (.tmp 67) (.tmp 69) (.c (.t (.b false))), none⟩)]
abbrev f8r8 : Pc := .reg f8o8 [3, 9, 11, 13, 70] []
abbrev f8o10 : List (Nat × Pop) := [
  (0, ⟨(some 73), .mv (.tmp 9), none⟩),
  (1, ⟨(some 74), .mv (.tmp 3), none⟩),
  (2, ⟨(some 75), .mv (.tmp 13), none⟩),
  (3, ⟨(some 76), .ixS 3 (.tmp 74) (.tmp 75), none⟩),
  (4, ⟨(some 77), .load true 3 (.tmp 76), none⟩),
  (5, ⟨(some 78), .call 27 [(.tmp 73), (.tmp 77)], none⟩)]
abbrev f8r10 : Pc := .reg f8o10 [3, 9, 11, 13] []
abbrev f8o11 : List (Nat × Pop) := [
  (0, ⟨(some 79), .mv (.tmp 11), none⟩),
  (1, ⟨(some 80), .mv (.tmp 3), none⟩),
  (2, ⟨(some 81), .mv (.tmp 13), none⟩),
  (3, ⟨(some 82), .ixS 3 (.tmp 80) (.tmp 81), none⟩),
  (4, ⟨(some 83), .load true 3 (.tmp 82), none⟩),
  (5, ⟨(some 84), .call 27 [(.tmp 79), (.tmp 83)], none⟩)]
abbrev f8r11 : Pc := .reg f8o11 [3, 9, 11, 13] []
abbrev f8o12 : List (Nat × Pop) := [
  (0, ⟨(some 86), .mv (.tmp 9), none⟩),
  (1, ⟨(some 87), .call 17 [(.tmp 86)], none⟩),
  (2, ⟨(some 85), .mv (.tmp 87), none⟩),
  (3, ⟨(some 88), .ext 0 (.tmp 85), none⟩),
  (4, ⟨(some 89), .ext 1 (.tmp 85), none⟩),
  (5, ⟨(some 14), .mv (.tmp 88), none⟩),
  (6, ⟨(some 15), .mv (.tmp 89), none⟩)]
abbrev f8r12 : Pc := .reg f8o12 [3, 9, 11, 13, 14, 15] []
abbrev f8o13 : List (Nat × Pop) := [
  (0, ⟨(some 91), .mv (.tmp 11), none⟩),
  (1, ⟨(some 92), .call 17 [(.tmp 91)], none⟩),
  (2, ⟨(some 90), .mv (.tmp 92), none⟩),
  (3, ⟨(some 93), .ext 0 (.tmp 90), none⟩),
  (4, ⟨(some 94), .ext 1 (.tmp 90), none⟩),
  (5, ⟨(some 16), .mv (.tmp 93), none⟩),
  (6, ⟨(some 17), .mv (.tmp 94), none⟩)]
abbrev f8r13 : Pc := .reg f8o13 [3, 9, 11, 13, 14, 15, 16, 17] []
abbrev f8o14 : List (Nat × Pop) := [
  (0, ⟨(some 95), .mv (.tmp 9), none⟩),
  (1, ⟨(some 96), .call 14 [(.tmp 95)], none⟩),
  (2, ⟨(some 97), .mv (.tmp 11), none⟩),
  (3, ⟨(some 98), .call 14 [(.tmp 97)], none⟩),
  (4, ⟨(some 18), .mv (.tmp 96), none⟩),
  (5, ⟨(some 19), .mv (.tmp 98), none⟩)]
abbrev f8r14 : Pc := .reg f8o14 [3, 9, 11, 13, 14, 15, 16, 17, 18, 19] []
abbrev f8o15 : List (Nat × Pop) := [
  (0, ⟨(some 99), .mv (.tmp 15), none⟩),
  (1, ⟨(some 100), .mv (.tmp 17), none⟩),
  (2, ⟨(some 101), .beq true (.tmp 99) (.tmp 100), none⟩),
  (3, ⟨(some 102), .mv (.tmp 101), none⟩),
  (4, ⟨(some 103), .mv (.tmp 14), (some (102, false))⟩),
  (5, ⟨(some 104), .mv (.tmp 16), (some (102, false))⟩),
  (6, ⟨(some 105), .call 22 [(.tmp 103), (.tmp 104)], (some (102, false))⟩),
  (7, ⟨(some 106), .un .not (.tmp 105), (some (102, false))⟩),
  (8, ⟨(some 107), .pick (.tmp 102) (.c (.t (.b true))) (.tmp 106), none⟩),
  (9, ⟨(some 108), .mv (.tmp 107), none⟩),
  (10, ⟨(some 109), .mv (.tmp 9), (some (108, false))⟩),
  (11, ⟨(some 110), .call 18 [(.tmp 109)], (some (108, false))⟩),
  (12, ⟨(some 111), .mv (.tmp 11), (some (108, false))⟩),
  (13, ⟨(some 112), .call 18 [(.tmp 111)], (some (108, false))⟩),
  (14, ⟨(some 113), .bin .neq (.tmp 110) (.tmp 112), (some (108, false))⟩),
  (15, ⟨(some 114), .pick (.tmp 108) (.c (.t (.b true))) (.tmp 113), none⟩),
  (16, ⟨(some 115), .mv (.tmp 114), none⟩),
  (17, ⟨(some 116), .mv (.tmp 18), (some (115, false))⟩),
  (18, ⟨(some 117), .lenL (.tmp 116), (some (115, false))⟩),
  (19, ⟨(some 118), .mv (.tmp 19), (some (115, false))⟩),
  (20, ⟨(some 119), .lenL (.tmp 118), (some (115, false))⟩),
  (21, ⟨(some 120), .bin .neq (.tmp 117) (.tmp 119), (some (115, false))⟩),
  (22, ⟨(some 121), .pick (.tmp 115) (.c (.t (.b true))) (.tmp 120), none⟩)]
abbrev f8r15 : Pc := .reg f8o15 [3, 9, 11, 13, 18, 19, 121] []
abbrev f8o16 : List (Nat × Pop) := [
  (0, ⟨(some 8), .mv (.c (.t (.b false))), none⟩)]
abbrev f8r16 : Pc := .reg f8o16 [8] []
abbrev f8o17 : List (Nat × Pop) := [
  (0, ⟨(some 122), .mv (.tmp 18), none⟩),
  (1, ⟨(some 123), .lenL (.tmp 122), none⟩),
  (2, ⟨(some 124), .mv (.c (.t (.i .i64 0))), none⟩)]
abbrev f8r17 : Pc := .reg f8o17 [3, 9, 11, 13, 18, 19, 123, 124] []
abbrev f8o18 : List (Nat × Pop) := [
  (0, ⟨(some 125), .bin .lss (.tmp 124) (.tmp 123), none⟩)]
abbrev f8r18 : Pc := .reg f8o18 [3, 9, 11, 13, 18, 19, 123, 124, 125] []
abbrev f8o19 : List (Nat × Pop) := [
  (0, ⟨(some 126), .mv (.tmp 124), none⟩),
  (1, ⟨(some 20), .mv (.tmp 126), none⟩)]
abbrev f8r19 : Pc := .reg f8o19 [3, 9, 11, 13, 18, 19, 20, 123, 124] []
abbrev f8o20 : List (Nat × Pop) := [
  (0, ⟨(some 127), .mv (.tmp 18), none⟩),
  (1, ⟨(some 128), .mv (.tmp 20), none⟩),
  (2, ⟨(some 129), .ixS 1 (.tmp 127) (.tmp 128), none⟩),
  (3, ⟨(some 130), .load false 1 (.tmp 129), none⟩),
  (4, ⟨(some 131), .mv (.tmp 19), none⟩),
  (5, ⟨(some 132), .mv (.tmp 20), none⟩),
  (6, ⟨(some 133), .ixS 1 (.tmp 131) (.tmp 132), none⟩),
  (7, ⟨(some 134), .load false 1 (.tmp 133), none⟩),
  (8, ⟨(some 135), .bin .neq (.tmp 130) (.tmp 134), none⟩)]
abbrev f8r20 : Pc := .reg f8o20 [3, 9, 11, 13, 18, 19, 123, 124, 135] []
abbrev f8o21 : List (Nat × Pop) := [
  (0, ⟨(some 8), .mv (.c (.t (.b false))), none⟩)]
abbrev f8r21 : Pc := .reg f8o21 [8] []
abbrev f8o22 : List (Nat × Pop) := [
  (0, ⟨(some 136), .bin .add (.tmp 124) (.c (.t (.i .i64 1))), none⟩),
  (1, ⟨(some 124), .mv (.tmp 136), none⟩)]
abbrev f8r22 : Pc := .reg f8o22 [3, 9, 11, 13, 18, 19, 123, 124] []
def f8l0 : Pc := (.seq f8r18 (.seq (.cond (.tmp 125) .skip (.exit 2)) (.seq (.block 3 (.seq f8r19 (.seq f8r20 (.cond (.tmp 135) (.seq f8r21 .ret) .skip)))) f8r22)))
theorem f8l0e (C : Cfg) (s : St) : evL C f8l0 s = evL C (.seq f8r18 (.seq (.cond (.tmp 125) .skip (.exit 2)) (.seq (.block 3 (.seq f8r19 (.seq f8r20 (.cond (.tmp 135) (.seq f8r21 .ret) .skip)))) f8r22))) s := rfl
abbrev f8o9 : List (Nat × Pop) := [
  (0, ⟨(some 71), .mv (.tmp 13), none⟩),
  (1, ⟨(some 72), .bin .add (.tmp 71) (.c (.t (.i .i64 1))), none⟩),
  (2, ⟨(some 13), .mv (.tmp 72), none⟩)]
abbrev f8r9 : Pc := .reg f8o9 [3, 9, 11, 13] []
def f8l1 : Pc := (.seq (.seq f8r8 (.cond (.tmp 70) .skip (.exit 0))) (.seq (.block 1 (.seq f8r10 (.seq f8r11 (.seq f8r12 (.seq f8r13 (.seq f8r14 (.seq (.seq f8r15 (.cond (.tmp 121) (.seq f8r16 .ret) .skip)) (.seq f8r17 (.block 2 (.loop f8l0)))))))))) f8r9))
theorem f8l1e (C : Cfg) (s : St) : evL C f8l1 s = evL C (.seq (.seq f8r8 (.cond (.tmp 70) .skip (.exit 0))) (.seq (.block 1 (.seq f8r10 (.seq f8r11 (.seq f8r12 (.seq f8r13 (.seq f8r14 (.seq (.seq f8r15 (.cond (.tmp 121) (.seq f8r16 .ret) .skip)) (.seq f8r17 (.block 2 (.loop f8l0)))))))))) f8r9)) s := rfl
abbrev f8o23 : List (Nat × Pop) := [
  (0, ⟨(some 137), .call 11 [], none⟩),
  (1, ⟨(some 8), .mv (.tmp 137), none⟩)]
abbrev f8r23 : Pc := .reg f8o23 [8] []
abbrev f8b : Pc := (.seq f8r0 (.seq (.seq f8r1 (.cond (.tmp 41) (.seq f8r2 .ret) .skip)) (.seq f8r3 (.seq f8r4 (.seq (.seq f8r5 (.cond (.tmp 62) (.seq f8r6 .ret) .skip)) (.seq (.seq f8r7 (.block 0 (.loop f8l1))) (.seq f8r23 .ret)))))))
abbrev f8 : Pfn := ⟨4, 138, [.tmp 8], f8b⟩
def f8K : Array (List Nat) := #[[2, 3, 4, 5], [2, 3, 4, 5, 41], [8], [2, 3, 4, 5, 9], [3, 9, 11], [3, 9, 11, 62], [8], [3, 9, 11, 13], [3, 9, 11, 13, 70], [3, 9, 11, 13], [3, 9, 11, 13], [3, 9, 11, 13], [3, 9, 11, 13, 14, 15], [3, 9, 11, 13, 14, 15, 16, 17], [3, 9, 11, 13, 14, 15, 16, 17, 18, 19], [3, 9, 11, 13, 18, 19, 121], [8], [3, 9, 11, 13, 18, 19, 123, 124], [3, 9, 11, 13, 18, 19, 123, 124, 125], [3, 9, 11, 13, 18, 19, 20, 123, 124], [3, 9, 11, 13, 18, 19, 123, 124, 135], [8], [3, 9, 11, 13, 18, 19, 123, 124], [8]]
def f8H : Array (List Nat) := #[[], [], [], [], [], [], [], [], [], [], [], [], [], [], [], [], [], [], [], [], [], [], [], []]
def f8A : Ann := ⟨fun r => f8K.getD r [], fun r => f8H.getD r [], fun r i => ([] : List (Nat × Nat)).contains (r, i)⟩
theorem f8C : compF Go.Proofs.Tryz.prog f8A 8 = some f8 := by kernel_rfl

/-- switchboard/switchboardref15.Small -/
abbrev f9o0 : List (Nat × Pop) := [
  (0, ⟨(some 1), .box 24 2 (.tmp 0), none⟩),
  (1, ⟨(some 2), .mv (.c (.t (.b false))), none⟩)]
abbrev f9r0 : Pc := .reg f9o0 [1] []
abbrev f9o1 : List (Nat × Pop) := [
  (0, ⟨(some 7), .fad 1 (.tmp 1), none⟩),
  (1, ⟨(some 8), .load false 1 (.tmp 7), none⟩),
  (2, ⟨(some 9), .lenL (.tmp 8), none⟩),
  (3, ⟨(some 10), .bin .gtr (.tmp 9) (.c (.t (.i .i64 5))), none⟩)]
abbrev f9r1 : Pc := .reg f9o1 [1, 10] []
abbrev f9o2 : List (Nat × Pop) := [
  (0, ⟨(some 2), .mv (.c (.t (.b false))), none⟩)]
abbrev f9r2 : Pc := .reg f9o2 [2] [1]
abbrev f9o3 : List (Nat × Pop) := [
  (0, ⟨(some 11), .fad 1 (.tmp 1), none⟩),
  (1, ⟨(some 12), .load false 1 (.tmp 11), none⟩),
  (2, ⟨(some 13), .lenL (.tmp 12), none⟩),
  (3, ⟨(some 14), .mv (.c (.t (.i .i64 0))), none⟩)]
abbrev f9r3 : Pc := .reg f9o3 [12, 13, 14] [1]
abbrev f9o4 : List (Nat × Pop) := [
  (0, ⟨(some 15), .bin .lss (.tmp 14) (.tmp 13), none⟩)]
abbrev f9r4 : Pc := .reg f9o4 [12, 13, 14, 15] []
abbrev f9o5 : List (Nat × Pop) := [
  (0, ⟨(some 16), .ixS 3 (.tmp 12) (.tmp 14), none⟩),
  (1, ⟨(some 17), .load true 3 (.tmp 16), none⟩),
  (2, ⟨(some 4), .alloc 53 [.nl, .nl, (.t (.i .i64 0))], none⟩),
  (3, ⟨none, .store 3 (.tmp 4) (.tmp 17), none⟩)]
abbrev f9r5 : Pc := .reg f9o5 [4, 12, 13, 14] []
abbrev f9o6 : List (Nat × Pop) := [
  (0, ⟨(some 18), .fad 1 (.tmp 4), none⟩),
  (1, ⟨(some 19), .load false 1 (.tmp 18), none⟩),
  (2, ⟨(some 20), .lenL (.tmp 19), none⟩),
  (3, ⟨(some 21), .bin .gtr (.tmp 20) (.c (.t (.i .i64 9))), none⟩),
  (4, ⟨(some 22), .mv (.tmp 21), none⟩),
  (5, ⟨(some 23), .fad 0 (.tmp 4), (some (22, false))⟩),
  (6, ⟨(some 24), .load false 1 (.tmp 23), (some (22, false))⟩),
  (7, ⟨(some 25), .call 10 [(.tmp 24)], (some (22, false))⟩),
  (8, ⟨(some 26), .un .not (.tmp 25), (some (22, false))⟩),
  (9, ⟨(some 27), .pick (.tmp 22) (.c (.t (.b true))) (.tmp 26), none⟩)]
abbrev f9r6 : Pc := .reg f9o6 [4, 12, 13, 14, 27] []
abbrev f9o7 : List (Nat × Pop) := [
  (0, ⟨(some 2), .mv (.c (.t (.b false))), none⟩)]
abbrev f9r7 : Pc := .reg f9o7 [2] [4]
abbrev f9o8 : List (Nat × Pop) := [
  (0, ⟨(some 28), .fad 1 (.tmp 4), none⟩),
  (1, ⟨(some 29), .load false 1 (.tmp 28), none⟩),
  (2, ⟨(some 30), .lenL (.tmp 29), none⟩),
  (3, ⟨(some 31), .mv (.c (.t (.i .i64 0))), none⟩)]
abbrev f9r8 : Pc := .reg f9o8 [12, 13, 14, 29, 30, 31] [4]
abbrev f9o9 : List (Nat × Pop) := [
  (0, ⟨(some 32), .bin .lss (.tmp 31) (.tmp 30), none⟩)]
abbrev f9r9 : Pc := .reg f9o9 [12, 13, 14, 29, 30, 31, 32] []
abbrev f9o10 : List (Nat × Pop) := [
  (0, ⟨(some 33), .ixS 2 (.tmp 29) (.tmp 31), none⟩),
  (1, ⟨(some 34), .load true 2 (.tmp 33), none⟩),
  (2, ⟨(some 6), .alloc 67 [.nl, .nl], none⟩),
  (3, ⟨none, .store 2 (.tmp 6) (.tmp 34), none⟩)]
abbrev f9r10 : Pc := .reg f9o10 [6, 12, 13, 14, 29, 30, 31] []
abbrev f9o11 : List (Nat × Pop) := [
  (0, ⟨(some 35), .fad 0 (.tmp 6), none⟩),
  (1, ⟨(some 36), .load false 1 (.tmp 35), none⟩),
  (2, ⟨(some 37), .call 10 [(.tmp 36)], none⟩),
  (3, ⟨(some 38), .un .not (.tmp 37), none⟩),
  (4, ⟨(some 39), .mv (.tmp 38), none⟩),
  (5, ⟨(some 40), .fad 1 (.tmp 6), (some (39, false))⟩),
  (6, ⟨(some 41), .load false 1 (.tmp 40), (some (39, false))⟩),
  (7, ⟨(some 42), .call 10 [(.tmp 41)], (some (39, false))⟩),
  (8, ⟨(some 43), .un .not (.tmp 42), (some (39, false))⟩),
  (9, ⟨(some 44), .pick (.tmp 39) (.c (.t (.b true))) (.tmp 43), none⟩)]
abbrev f9r11 : Pc := .reg f9o11 [12, 13, 14, 29, 30, 31, 44] [6]
abbrev f9o12 : List (Nat × Pop) := [
  (0, ⟨(some 2), .mv (.c (.t (.b false))), none⟩)]
abbrev f9r12 : Pc := .reg f9o12 [2] []
abbrev f9o13 : List (Nat × Pop) := [
  (0, ⟨(some 45), .bin .add (.tmp 31) (.c (.t (.i .i64 1))), none⟩),
  (1, ⟨(some 31), .mv (.tmp 45), none⟩)]
abbrev f9r13 : Pc := .reg f9o13 [12, 13, 14, 29, 30, 31] []
def f9l0 : Pc := (.seq f9r9 (.seq (.cond (.tmp 32) .skip (.exit 2)) (.seq (.block 3 (.seq f9r10 (.seq f9r11 (.cond (.tmp 44) (.seq f9r12 .ret) .skip)))) f9r13)))
theorem f9l0e (C : Cfg) (s : St) : evL C f9l0 s = evL C (.seq f9r9 (.seq (.cond (.tmp 32) .skip (.exit 2)) (.seq (.block 3 (.seq f9r10 (.seq f9r11 (.cond (.tmp 44) (.seq f9r12 .ret) .skip)))) f9r13))) s := rfl
abbrev f9o14 : List (Nat × Pop) := [
  (0, ⟨(some 46), .bin .add (.tmp 14) (.c (.t (.i .i64 1))), none⟩),
  (1, ⟨(some 14), .mv (.tmp 46), none⟩)]
abbrev f9r14 : Pc := .reg f9o14 [12, 13, 14] []
def f9l1 : Pc := (.seq f9r4 (.seq (.cond (.tmp 15) .skip (.exit 0)) (.seq (.block 1 (.seq f9r5 (.seq (.seq f9r6 (.cond (.tmp 27) (.seq f9r7 .ret) .skip)) (.seq f9r8 (.block 2 (.loop f9l0)))))) f9r14)))
theorem f9l1e (C : Cfg) (s : St) : evL C f9l1 s = evL C (.seq f9r4 (.seq (.cond (.tmp 15) .skip (.exit 0)) (.seq (.block 1 (.seq f9r5 (.seq (.seq f9r6 (.cond (.tmp 27) (.seq f9r7 .ret) .skip)) (.seq f9r8 (.block 2 (.loop f9l0)))))) f9r14))) s := rfl
abbrev f9o15 : List (Nat × Pop) := [
  (0, ⟨(some 2), .mv (.c (.t (.b true))), none⟩)]
abbrev f9r15 : Pc := .reg f9o15 [2] []
abbrev f9b : Pc := (.seq f9r0 (.seq (.seq f9r1 (.cond (.tmp 10) (.seq f9r2 .ret) .skip)) (.seq (.seq f9r3 (.block 0 (.loop f9l1))) (.seq f9r15 .ret))))
abbrev f9 : Pfn := ⟨1, 47, [.tmp 2], f9b⟩
def f9K : Array (List Nat) := #[[1], [1, 10], [2], [12, 13, 14], [12, 13, 14, 15], [4, 12, 13, 14], [4, 12, 13, 14, 27], [2], [12, 13, 14, 29, 30, 31], [12, 13, 14, 29, 30, 31, 32], [6, 12, 13, 14, 29, 30, 31], [12, 13, 14, 29, 30, 31, 44], [2], [12, 13, 14, 29, 30, 31], [12, 13, 14], [2]]
def f9H : Array (List Nat) := #[[], [], [1], [1], [], [], [], [4], [4], [], [], [6], [], [], [], []]
def f9A : Ann := ⟨fun r => f9K.getD r [], fun r => f9H.getD r [], fun r i => ([] : List (Nat × Nat)).contains (r, i)⟩
theorem f9C : compF Go.Proofs.Tryz.prog f9A 9 = some f9 := by kernel_rfl

/-- switchboard/switchboardref03.Small -/
abbrev f10o0 : List (Nat × Pop) := [
  (0, ⟨(some 2), .mv (.c (.t (.b false))), none⟩)]
abbrev f10r0 : Pc := .reg f10o0 [0] []
abbrev f10o1 : List (Nat × Pop) := [
  (0, ⟨(some 3), .mv (.c (.t (.i .i64 0))), none⟩)]
abbrev f10r1 : Pc := .reg f10o1 [0, 3] []
abbrev f10o2 : List (Nat × Pop) := [
  (0, ⟨(some 4), .mv (.tmp 3), none⟩),
  (1, ⟨(some 5), .mv (.tmp 0), none⟩),
  (2, ⟨(some 6), .lenL (.tmp 5), none⟩),
  (3, ⟨(some 7), .bin .lss (.tmp 4) (.tmp 6), none⟩),
  (4, ⟨(some 8), .mv (.tmp 7), none⟩),
  (5, ⟨(some 9), .mv (.tmp 3), (some (8, true))⟩),
  (6, ⟨(some 10), .bin .lss (.tmp 9) (.c (.t (.i .i64 30))), (some (8, true))⟩),
  (7, ⟨(some 11), .pick (.tmp 8) (.tmp 10) (.c (.t (.b false))), none⟩)]
abbrev f10r2 : Pc := .reg f10o2 [0, 3, 11] []
abbrev f10o4 : List (Nat × Pop) := [
  (0, ⟨(some 14), .mv (.tmp 0), none⟩),
  (1, ⟨(some 15), .mv (.tmp 3), none⟩),
  (2, ⟨(some 16), .ixS 1 (.tmp 14) (.tmp 15), none⟩),
  (3, ⟨(some 17), .load false 1 (.tmp 16), none⟩),
  (4, ⟨(some 18), .lenL (.tmp 17), none⟩),
  (5, ⟨(some 19), .bin .gtr (.tmp 18) (.c (.t (.i .i64 30))), none⟩)]
abbrev f10r4 : Pc := .reg f10o4 [0, 3, 19] []
abbrev f10o5 : List (Nat × Pop) := [
  (0, ⟨(some 2), .mv (.c (.t (.b false))), none⟩)]
abbrev f10r5 : Pc := .reg f10o5 [2] []
abbrev f10o3 : List (Nat × Pop) := [
  (0, ⟨(some 12), .mv (.tmp 3), none⟩),
  (1, ⟨(some 13), .bin .add (.tmp 12) (.c (.t (.i .i64 1))), none⟩),
  (2, ⟨(some 3), .mv (.tmp 13), none⟩)]
abbrev f10r3 : Pc := .reg f10o3 [0, 3] []
def f10l0 : Pc := (.seq (.seq f10r2 (.cond (.tmp 11) .skip (.exit 0))) (.seq (.block 1 (.seq f10r4 (.cond (.tmp 19) (.seq f10r5 .ret) .skip))) f10r3))
theorem f10l0e (C : Cfg) (s : St) : evL C f10l0 s = evL C (.seq (.seq f10r2 (.cond (.tmp 11) .skip (.exit 0))) (.seq (.block 1 (.seq f10r4 (.cond (.tmp 19) (.seq f10r5 .ret) .skip))) f10r3)) s := rfl
abbrev f10o6 : List (Nat × Pop) := [
  (0, ⟨(some 20), .mv (.tmp 0), none⟩),
  (1, ⟨(some 21), .lenL (.tmp 20), none⟩),
  (2, ⟨(some 22), .bin .leq (.tmp 21) (.c (.t (.i .i64 30))), none⟩),
  (3, ⟨(some 2), .mv (.tmp 22), none⟩)]
abbrev f10r6 : Pc := .reg f10o6 [2] []
abbrev f10b : Pc := (.seq f10r0 (.seq (.seq f10r1 (.block 0 (.loop f10l0))) (.seq f10r6 .ret)))
abbrev f10 : Pfn := ⟨1, 23, [.tmp 2], f10b⟩
def f10K : Array (List Nat) := #[[0], [0, 3], [0, 3, 11], [0, 3], [0, 3, 19], [2], [2]]
def f10H : Array (List Nat) := #[[], [], [], [], [], [], []]
def f10A : Ann := ⟨fun r => f10K.getD r [], fun r => f10H.getD r [], fun r i => ([] : List (Nat × Nat)).contains (r, i)⟩
theorem f10C : compF Go.Proofs.Tryz.prog f10A 10 = some f10 := by kernel_rfl

/-- switchboard/switchboardlaw19.awake -/
abbrev f11o0 : List (Nat × Pop) := [
  (0, ⟨(some 0), .mv (.c (.t (.b false))), none⟩)]
abbrev f11r0 : Pc := .reg f11o0 [] []
abbrev f11o1 : List (Nat × Pop) := [
  (0, ⟨(some 7), .bslT 1 [(.c (.t (.i .i64 65536)))], none⟩),
  (1, ⟨(some 8), .bslT 1 [(.tmp 7)], none⟩),
  (2, ⟨(some 1), .mv (.tmp 8), none⟩)]
abbrev f11r1 : Pc := .reg f11o1 [1] []
abbrev f11o2 : List (Nat × Pop) := [
  (0, ⟨(some 9), .mv (.tmp 1), none⟩),
  (1, ⟨(some 10), .mv (.tmp 1), none⟩),
  (2, ⟨(some 11), .mv (.tmp 1), none⟩),
  (3, ⟨(some 12), .build [.nl, .nl] [(0, 1, (.tmp 10)), (1, 1, (.tmp 11))], none⟩),
  (4, ⟨(some 13), .bslT 2 [(.tmp 12)], none⟩),
  (5, ⟨(some 14), .build [.nl, .nl, (.t (.i .i64 0))] [(0, 1, (.tmp 9)), (1, 1, (.tmp 13)), (2, 1, (.c (.t (.i .i64 1))))], none⟩),
  (6, ⟨(some 15), .bslT 3 [(.tmp 14)], none⟩),
  (7, ⟨(some 16), .build [(.t (.i .i64 0)), .nl] [(0, 1, (.c (.t (.i .i64 1)))), (1, 1, (.tmp 15))], none⟩),
  (8, ⟨(some 2), .alloc 24 [(.t (.i .i64 0)), .nl], none⟩),
  (9, ⟨none, .store 2 (.tmp 2) (.tmp 16), none⟩)]
abbrev f11r2 : Pc := .reg f11o2 [2] []
abbrev f11o3 : List (Nat × Pop) := [
  (0, ⟨(some 18), .load true 2 (.tmp 2), none⟩),
  (1, ⟨(some 19), .bslT 1 [(.c (.t (.i .i64 2)))], none⟩),
  (2, ⟨(some 20), .bslT 1 [(.tmp 19)], none⟩),
  (3, ⟨(some 21), .build [(.t (.i .i64 0)), .nl] [(1, 1, (.tmp 20))], none⟩),
  (4, ⟨(some 22), .bslT 1 [(.c (.t (.i .i64 7)))], none⟩),
  (5, ⟨(some 23), .bslT 1 [(.tmp 22)], none⟩),
  (6, ⟨(some 24), .call 12 [(.tmp 18), (.tmp 21), (.tmp 23)], none⟩),
  (7, ⟨(some 17), .mv (.tmp 24), none⟩),
  (8, ⟨(some 25), .ext 0 (.tmp 17), none⟩),
  (9, ⟨(some 26), .ext 1 (.tmp 17), none⟩),
  (10, ⟨(some 3), .mv (.tmp 25), none⟩),
  (11, ⟨(some 4), .mv (.tmp 26), none⟩)]
abbrev f11r3 : Pc := .reg f11o3 [3, 4] []
abbrev f11o4 : List (Nat × Pop) := [
  (0, ⟨(some 27), .mv (.tmp 3), none⟩),
  (1, ⟨(some 28), .isnilP false (.tmp 27), none⟩),
  (2, ⟨(some 29), .mv (.tmp 28), none⟩),
  (3, ⟨(some 30), .mv (.tmp 4), (some (29, false))⟩),
  (4, ⟨(some 31), .bin .neq (.tmp 30) (.c (.t (.i .i64 0))), (some (29, false))⟩),
  (5, ⟨(some 32), .pick (.tmp 29) (.c (.t (.b true))) (.tmp 31), none⟩),
  (6, ⟨(some 33), .mv (.tmp 32), none⟩),
  (7, ⟨(some 34), .mv (.tmp 3), (some (33, false))⟩),
  (8, ⟨(some 35), .call 14 [(.tmp 34)], (some (33, false))⟩),
  (9, ⟨(some 36), .lenL (.tmp 35), (some (33, false))⟩),
  (10, ⟨(some 37), .bin .neq (.tmp 36) (.c (.t (.i .i64 1))), (some (33, false))⟩),
  (11, ⟨(some 38), .pick (.tmp 33) (.c (.t (.b true))) (.tmp 37), none⟩),
  (12, ⟨(some 39), .mv (.tmp 38), none⟩),
  (13, ⟨(some 40), .mv (.tmp 3), (some (39, false))⟩),
  (14, ⟨(some 41), .call 21 [(.tmp 40), (.c (.t (.i .i64 0)))], (some (39, false))⟩),
  (15, ⟨(some 42), .bin .neq (.tmp 41) (.c (.t (.i .i64 0))), (some (39, false))⟩),
  (16, ⟨(some 43), .pick (.tmp 39) (.c (.t (.b true))) (.tmp 42), none⟩),
  (17, ⟨(some 44), .mv (.tmp 43), none⟩),
  (18, ⟨(some 45), .mv (.tmp 3), (some (44, false))⟩),
  (19, ⟨(some 46), .call 21 [(.tmp 45), (.c (.t (.i .i64 0)))], (some (44, false))⟩),
  (20, ⟨(some 47), .bin .neq (.tmp 46) (.c (.t (.i .i64 0))), (some (44, false))⟩),
  (21, ⟨(some 48), .pick (.tmp 44) (.c (.t (.b true))) (.tmp 47), none⟩)]
abbrev f11r4 : Pc := .reg f11o4 [3, 48] []
abbrev f11o5 : List (Nat × Pop) := [
  (0, ⟨(some 0), .mv (.c (.t (.b false))), none⟩)]
abbrev f11r5 : Pc := .reg f11o5 [0] []
abbrev f11o6 : List (Nat × Pop) := [
  (0, ⟨(some 50), .mv (.tmp 3), none⟩),
  (1, ⟨(some 51), .call 17 [(.tmp 50)], none⟩),
  (2, ⟨(some 49), .mv (.tmp 51), none⟩),
  (3, ⟨(some 52), .ext 0 (.tmp 49), none⟩),
  (4, ⟨(some 53), .ext 1 (.tmp 49), none⟩),
  (5, ⟨(some 5), .mv (.tmp 52), none⟩),
  (6, ⟨(some 6), .mv (.tmp 53), none⟩)]
abbrev f11r6 : Pc := .reg f11o6 [3, 5, 6] []
abbrev f11o7 : List (Nat × Pop) := [
  (0, ⟨(some 54), .mv (.tmp 6), none⟩),
  (1, ⟨(some 55), .mv (.tmp 54), none⟩),
  (2, ⟨(some 56), .mv (.tmp 5), (some (55, true))⟩),
  (3, ⟨(some 57), .lenL (.tmp 56), (some (55, true))⟩),
  (4, ⟨(some 58), .bin .eql (.tmp 57) (.c (.t (.i .i64 1))), (some (55, true))⟩),
  (5, ⟨(some 59), .pick (.tmp 55) (.tmp 58) (.c (.t (.b false))), none⟩),
  (6, ⟨(some 60), .mv (.tmp 59), none⟩),
  (7, ⟨(some 61), .mv (.tmp 5), (some (60, true))⟩),
  (8, ⟨(some 62), .ixS 1 (.tmp 61) (.c (.t (.i .i64 0))), (some (60, true))⟩),
  (9, ⟨(some 63), .load false 1 (.tmp 62), (some (60, true))⟩),
  (10, ⟨(some 64), .lenL (.tmp 63), (some (60, true))⟩),
  (11, ⟨(some 65), .bin .eql (.tmp 64) (.c (.t (.i .i64 1))), (some (60, true))⟩),
  (12, ⟨(some 66), .pick (.tmp 60) (.tmp 65) (.c (.t (.b false))), none⟩),
  (13, ⟨(some 67), .mv (.tmp 66), none⟩),
  (14, ⟨(some 68), .mv (.tmp 5), (some (67, true))⟩),
  (15, ⟨(some 69), .ixS 1 (.tmp 68) (.c (.t (.i .i64 0))), (some (67, true))⟩),
  (16, ⟨(some 70), .load false 1 (.tmp 69), (some (67, true))⟩),
  (17, ⟨(some 71), .ixS 1 (.tmp 70) (.c (.t (.i .i64 0))), (some (67, true))⟩),
  (18, ⟨(some 72), .load false 1 (.tmp 71), (some (67, true))⟩),
  (19, ⟨(some 73), .bin .eql (.tmp 72) (.c (.t (.i .i64 14))), (some (67, true))⟩),
  (20, ⟨(some 74), .pick (.tmp 67) (.tmp 73) (.c (.t (.b false))), none⟩),
  (21, ⟨(some 75), .mv (.tmp 74), none⟩),
  (22, ⟨(some 76), .mv (.tmp 3), (some (75, true))⟩),
  (23, ⟨(some 77), .call 18 [(.tmp 76)], (some (75, true))⟩),
  (24, ⟨(some 78), .bin .eql (.tmp 77) (.c (.t (.i .i64 1))), (some (75, true))⟩),
  (25, ⟨(some 79), .pick (.tmp 75) (.tmp 78) (.c (.t (.b false))), none⟩),
  (26, ⟨(some 80), .mv (.tmp 79), none⟩),
  (27, ⟨(some 81), .mv (.tmp 3), (some (80, true))⟩),
  (28, ⟨(some 82), .call 29 [(.tmp 81), (.c (.t (.i .i64 0)))], (some (80, true))⟩),
  (29, ⟨(some 83), .bin .eql (.tmp 82) (.c (.t (.i .i64 4))), (some (80, true))⟩),
  (30, ⟨(some 84), .pick (.tmp 80) (.tmp 83) (.c (.t (.b false))), none⟩),
  (31, ⟨(some 0), .mv (.tmp 84), none⟩)]
abbrev f11r7 : Pc := .reg f11o7 [0] []
abbrev f11b : Pc := (.seq f11r0 (.seq f11r1 (.seq f11r2 (.seq f11r3 (.seq (.seq f11r4 (.cond (.tmp 48) (.seq f11r5 .ret) .skip)) (.seq f11r6 (.seq f11r7 .ret)))))))
abbrev f11 : Pfn := ⟨0, 85, [.tmp 0], f11b⟩
def f11K : Array (List Nat) := #[[], [1], [2], [3, 4], [3, 48], [0], [3, 5, 6], [0]]
def f11H : Array (List Nat) := #[[], [], [], [], [], [], [], []]
def f11A : Ann := ⟨fun r => f11K.getD r [], fun r => f11H.getD r [], fun r i => ([(9999, 9999)] : List (Nat × Nat)).contains (r, i)⟩
theorem f11C : compF Go.Proofs.Tryz.prog f11A 11 = some f11 := by kernel_rfl

/-- switchboard/fleet.New -/
abbrev f12o0 : List (Nat × Pop) := [
  (0, ⟨(some 3), .box 24 2 (.tmp 0), none⟩),
  (1, ⟨(some 4), .box 27 2 (.tmp 1), none⟩),
  (2, ⟨(some 6), .mv (.c (.t .np)), none⟩),
  (3, ⟨(some 7), .mv (.c (.t (.i .i64 0))), none⟩)]
abbrev f12r0 : Pc := .reg f12o0 [2, 3, 4] []
abbrev f12o1 : List (Nat × Pop) := [
  (0, ⟨(some 9), .load true 2 (.tmp 3), none⟩),
  (1, ⟨(some 10), .call 30 [(.tmp 9)], none⟩),
  (2, ⟨(some 11), .un .not (.tmp 10), none⟩),
  (3, ⟨(some 12), .mv (.tmp 11), none⟩),
  (4, ⟨(some 13), .load true 2 (.tmp 3), (some (12, false))⟩),
  (5, ⟨(some 14), .mv (.tmp 2), (some (12, false))⟩),
  (6, ⟨(some 15), .call 31 [(.tmp 13), (.tmp 14)], (some (12, false))⟩),
  (7, ⟨(some 16), .un .not (.tmp 15), (some (12, false))⟩),
  (8, ⟨(some 17), .pick (.tmp 12) (.c (.t (.b true))) (.tmp 16), none⟩),
  (9, ⟨(some 18), .mv (.tmp 17), none⟩),
  (10, ⟨(some 19), .load true 2 (.tmp 4), (some (18, false))⟩),
  (11, ⟨(some 20), .call 32 [(.tmp 19)], (some (18, false))⟩),
  (12, ⟨(some 21), .un .not (.tmp 20), (some (18, false))⟩),
  (13, ⟨(some 22), .pick (.tmp 18) (.c (.t (.b true))) (.tmp 21), none⟩),
  (14, ⟨(some 23), .mv (.tmp 22), none⟩),
  (15, ⟨(some 24), .fad 1 (.tmp 3), (some (23, false))⟩),
  (16, ⟨(some 25), .load false 1 (.tmp 24), (some (23, false))⟩),
  (17, ⟨(some 26), .mkfn 34 [(.tmp 4)], (some (23, false))⟩),
  (18, ⟨(some 27), .call 33 [(.tmp 25), (.tmp 26)], (some (23, false))⟩),
  (19, ⟨(some 28), .pick (.tmp 23) (.c (.t (.b true))) (.tmp 27), none⟩)]
abbrev f12r1 : Pc := .reg f12o1 [2, 3, 4, 28] []
abbrev f12o2 : List (Nat × Pop) := [
  (0, ⟨(some 6), .mv (.c (.t .np)), none⟩),
  (1, ⟨(some 7), .mv (.c (.t (.i .i64 1))), none⟩)]
abbrev f12r2 : Pc := .reg f12o2 [6, 7] []
abbrev f12o3 : List (Nat × Pop) := [
  (0, ⟨(some 29), .load true 2 (.tmp 3), none⟩),
  (1, ⟨(some 30), .load true 2 (.tmp 4), none⟩),
  (2, ⟨(some 31), .mv (.tmp 2), none⟩),
  (3, ⟨(some 32), .callq 35 [(.tmp 31)], none⟩),
  (4, ⟨(some 33), .build [(.t (.i .i64 0)), .nl, (.t (.i .i64 0)), .nl, .nl, .nl, .nl, .nl, .nl, .nl, .nl, (.t (.i .i64 0)), .nl, .nl, .nl] [(0, 2, (.tmp 29)), (2, 2, (.tmp 30)), (10, 1, (.tmp 32))], none⟩),
  (5, ⟨(some 34), .box 78 15 (.tmp 33), none⟩),
  (6, ⟨(some 8), .mv (.tmp 34), none⟩)]
abbrev f12r3 : Pc := .reg f12o3 [8] []
abbrev f12o4 : List (Nat × Pop) := [
  (0, ⟨(some 35), .mv (.tmp 8), none⟩),
  (1, ⟨(some 36), .call 36 [(.tmp 35)], none⟩)]
abbrev f12r4 : Pc := .reg f12o4 [8] []
abbrev f12o5 : List (Nat × Pop) := [
  (0, ⟨(some 37), .mv (.tmp 8), none⟩),
  (1, ⟨(some 38), .call 37 [(.tmp 37)], none⟩)]
abbrev f12r5 : Pc := .reg f12o5 [8] []
abbrev f12o6 : List (Nat × Pop) := [
  (0, ⟨(some 39), .mv (.tmp 8), none⟩),
  (1, ⟨(some 6), .mv (.tmp 39), none⟩),
  (2, ⟨(some 7), .mv (.c (.t (.i .i64 0))), none⟩)]
abbrev f12r6 : Pc := .reg f12o6 [6, 7] []
abbrev f12b : Pc := (.seq f12r0 (.seq (.seq f12r1 (.cond (.tmp 28) (.seq f12r2 .ret) .skip)) (.seq f12r3 (.seq f12r4 (.seq f12r5 (.seq f12r6 .ret))))))
abbrev f12 : Pfn := ⟨3, 40, [.tmp 6, .tmp 7], f12b⟩
def f12K : Array (List Nat) := #[[2, 3, 4], [2, 3, 4, 28], [6, 7], [8], [8], [8], [6, 7]]
def f12H : Array (List Nat) := #[[], [], [], [], [], [], []]
def f12A : Ann := ⟨fun r => f12K.getD r [], fun r => f12H.getD r [], fun r i => ([] : List (Nat × Nat)).contains (r, i)⟩
theorem f12C : compF Go.Proofs.Tryz.prog f12A 12 = some f12 := by kernel_rfl

/-- switchboard/switchboardref19.May -/
abbrev f13o0 : List (Nat × Pop) := [
  (0, ⟨(some 3), .box 24 2 (.tmp 0), none⟩),
  (1, ⟨(some 4), .box 35 2 (.tmp 1), none⟩),
  (2, ⟨(some 6), .mv (.c (.t (.b false))), none⟩)]
abbrev f13r0 : Pc := .reg f13o0 [2, 3, 4] []
abbrev f13o1 : List (Nat × Pop) := [
  (0, ⟨(some 9), .load true 2 (.tmp 3), none⟩),
  (1, ⟨(some 10), .call 38 [(.tmp 9)], none⟩),
  (2, ⟨(some 11), .un .not (.tmp 10), none⟩),
  (3, ⟨(some 12), .mv (.tmp 11), none⟩),
  (4, ⟨(some 13), .load true 2 (.tmp 3), (some (12, false))⟩),
  (5, ⟨(some 14), .mv (.tmp 2), (some (12, false))⟩),
  (6, ⟨(some 15), .call 39 [(.tmp 13), (.tmp 14)], (some (12, false))⟩),
  (7, ⟨(some 16), .un .not (.tmp 15), (some (12, false))⟩),
  (8, ⟨(some 17), .pick (.tmp 12) (.c (.t (.b true))) (.tmp 16), none⟩),
  (9, ⟨(some 18), .mv (.tmp 17), none⟩),
  (10, ⟨(some 19), .load true 2 (.tmp 4), (some (18, false))⟩),
  (11, ⟨(some 20), .call 40 [(.tmp 19)], (some (18, false))⟩),
  (12, ⟨(some 21), .un .not (.tmp 20), (some (18, false))⟩),
  (13, ⟨(some 22), .pick (.tmp 18) (.c (.t (.b true))) (.tmp 21), none⟩)]
abbrev f13r1 : Pc := .reg f13o1 [3, 4, 22] []
abbrev f13o2 : List (Nat × Pop) := [
  (0, ⟨(some 6), .mv (.c (.t (.b false))), none⟩)]
abbrev f13r2 : Pc := .reg f13o2 [6] [3, 4]
abbrev f13o3 : List (Nat × Pop) := [
  (0, ⟨(some 23), .fad 1 (.tmp 3), none⟩),
  (1, ⟨(some 24), .load false 1 (.tmp 23), none⟩),
  (2, ⟨(some 25), .lenL (.tmp 24), none⟩),
  (3, ⟨(some 26), .mv (.c (.t (.i .i64 0))), none⟩)]
abbrev f13r3 : Pc := .reg f13o3 [4, 24, 25, 26] [3]
abbrev f13o4 : List (Nat × Pop) := [
  (0, ⟨(some 27), .bin .lss (.tmp 26) (.tmp 25), none⟩)]
abbrev f13r4 : Pc := .reg f13o4 [4, 24, 25, 26, 27] []
abbrev f13o5 : List (Nat × Pop) := [
  (0, ⟨(some 28), .ixS 3 (.tmp 24) (.tmp 26), none⟩),
  (1, ⟨(some 29), .load true 3 (.tmp 28), none⟩),
  (2, ⟨(some 8), .alloc 53 [.nl, .nl, (.t (.i .i64 0))], none⟩),
  (3, ⟨none, .store 3 (.tmp 8) (.tmp 29), none⟩)]
abbrev f13r5 : Pc := .reg f13o5 [4, 8, 24, 25, 26] []
abbrev f13o6 : List (Nat × Pop) := [
  (0, ⟨(some 30), .fad 1 (.tmp 8), none⟩),
  (1, ⟨(some 31), .load false 1 (.tmp 30), none⟩),
  (2, ⟨(some 32), .lenL (.tmp 31), none⟩),
  (3, ⟨(some 33), .fad 1 (.tmp 4), none⟩),
  (4, ⟨(some 34), .load false 1 (.tmp 33), none⟩),
  (5, ⟨(some 35), .lenL (.tmp 34), none⟩),
  (6, ⟨(some 36), .bin .gtr (.tmp 32) (.tmp 35), none⟩)]
abbrev f13r6 : Pc := .reg f13o6 [4, 24, 25, 26, 36] [8]
abbrev f13o7 : List (Nat × Pop) := [
  (0, ⟨(some 6), .mv (.c (.t (.b false))), none⟩)]
abbrev f13r7 : Pc := .reg f13o7 [6] [4]
abbrev f13o8 : List (Nat × Pop) := [
  (0, ⟨(some 37), .bin .add (.tmp 26) (.c (.t (.i .i64 1))), none⟩),
  (1, ⟨(some 26), .mv (.tmp 37), none⟩)]
abbrev f13r8 : Pc := .reg f13o8 [4, 24, 25, 26] []
def f13l0 : Pc := (.seq f13r4 (.seq (.cond (.tmp 27) .skip (.exit 0)) (.seq (.block 1 (.seq f13r5 (.seq f13r6 (.cond (.tmp 36) (.seq f13r7 .ret) .skip)))) f13r8)))
theorem f13l0e (C : Cfg) (s : St) : evL C f13l0 s = evL C (.seq f13r4 (.seq (.cond (.tmp 27) .skip (.exit 0)) (.seq (.block 1 (.seq f13r5 (.seq f13r6 (.cond (.tmp 36) (.seq f13r7 .ret) .skip)))) f13r8))) s := rfl
abbrev f13o9 : List (Nat × Pop) := [
  (0, ⟨(some 6), .mv (.c (.t (.b true))), none⟩)]
abbrev f13r9 : Pc := .reg f13o9 [6] [4]
abbrev f13b : Pc := (.seq f13r0 (.seq (.seq f13r1 (.cond (.tmp 22) (.seq f13r2 .ret) .skip)) (.seq (.seq f13r3 (.block 0 (.loop f13l0))) (.seq f13r9 .ret))))
abbrev f13 : Pfn := ⟨3, 38, [.tmp 6], f13b⟩
def f13K : Array (List Nat) := #[[2, 3, 4], [3, 4, 22], [6], [4, 24, 25, 26], [4, 24, 25, 26, 27], [4, 8, 24, 25, 26], [4, 24, 25, 26, 36], [6], [4, 24, 25, 26], [6]]
def f13H : Array (List Nat) := #[[], [], [3, 4], [3], [], [], [8], [4], [], [4]]
def f13A : Ann := ⟨fun r => f13K.getD r [], fun r => f13H.getD r [], fun r i => ([] : List (Nat × Nat)).contains (r, i)⟩
theorem f13C : compF Go.Proofs.Tryz.prog f13A 13 = some f13 := by kernel_rfl

/-- (*switchboard/fleet.Fleet).Bag -/
abbrev f14o0 : List (Nat × Pop) := [
  (0, ⟨(some 2), .nilv 9 1, none⟩)]
abbrev f14r0 : Pc := .reg f14o0 [0] []
abbrev f14o1 : List (Nat × Pop) := [
  (0, ⟨(some 3), .mv (.tmp 0), none⟩),
  (1, ⟨(some 4), .nchk (.tmp 3), none⟩),
  (2, ⟨(some 5), .fad 9 (.tmp 4), none⟩),
  (3, ⟨(some 6), .load false 1 (.tmp 5), none⟩),
  (4, ⟨(some 7), .call 41 [(.tmp 6)], none⟩),
  (5, ⟨(some 2), .mv (.tmp 7), none⟩)]
abbrev f14r1 : Pc := .reg f14o1 [2] []
abbrev f14b : Pc := (.seq f14r0 (.seq f14r1 .ret))
abbrev f14 : Pfn := ⟨1, 8, [.tmp 2], f14b⟩
def f14K : Array (List Nat) := #[[0], [2]]
def f14H : Array (List Nat) := #[[], []]
def f14A : Ann := ⟨fun r => f14K.getD r [], fun r => f14H.getD r [], fun r i => ([] : List (Nat × Nat)).contains (r, i)⟩
theorem f14C : compF Go.Proofs.Tryz.prog f14A 14 = some f14 := by kernel_rfl

/-- switchboard/switchboardref19.Asks -/
abbrev f15o0 : List (Nat × Pop) := [
  (0, ⟨(some 3), .box 24 2 (.tmp 0), none⟩),
  (1, ⟨(some 4), .box 35 2 (.tmp 1), none⟩),
  (2, ⟨(some 6), .nilv 44 11, none⟩)]
abbrev f15r0 : Pc := .reg f15o0 [2, 3, 4] [6, 7, 55]
abbrev f15o1 : List (Nat × Pop) := [
  (0, ⟨(some 7), .nilv 44 11, none⟩)]
abbrev f15r1 : Pc := .reg f15o1 [2, 3, 4, 7] []
abbrev f15o2 : List (Nat × Pop) := [
  (0, ⟨(some 11), .fad 1 (.tmp 3), none⟩),
  (1, ⟨(some 12), .load false 1 (.tmp 11), none⟩),
  (2, ⟨(some 13), .ixS 3 (.tmp 12) (.c (.t (.i .i64 0))), none⟩),
  (3, ⟨(some 14), .load true 3 (.tmp 13), none⟩),
  (4, ⟨(some 15), .mv (.tmp 2), none⟩),
  (5, ⟨(some 16), .call 19 [(.tmp 14), (.tmp 15)], none⟩),
  (6, ⟨(some 17), .lenL (.tmp 16), none⟩),
  (7, ⟨(some 18), .mv (.c (.t (.i .i64 0))), none⟩)]
abbrev f15r2 : Pc := .reg f15o2 [2, 4, 7, 16, 17, 18] [3]
abbrev f15o3 : List (Nat × Pop) := [
  (0, ⟨(some 19), .bin .lss (.tmp 18) (.tmp 17), none⟩)]
abbrev f15r3 : Pc := .reg f15o3 [2, 4, 7, 16, 17, 18, 19] []
abbrev f15o4 : List (Nat × Pop) := [
  (0, ⟨(some 20), .ixS 4 (.tmp 16) (.tmp 18), none⟩),
  (1, ⟨(some 21), .load true 4 (.tmp 20), none⟩),
  (2, ⟨(some 9), .alloc 82 [(.t (.i .i64 0)), (.t (.i .i64 0)), (.t (.i .i64 0)), (.t (.i .i64 0))], none⟩),
  (3, ⟨none, .store 4 (.tmp 9) (.tmp 21), none⟩)]
abbrev f15r4 : Pc := .reg f15o4 [2, 4, 7, 9, 16, 17, 18] []
abbrev f15o5 : List (Nat × Pop) := [
  (0, ⟨(some 22), .fad 1 (.tmp 4), none⟩),
  (1, ⟨(some 23), .load false 1 (.tmp 22), none⟩),
  (2, ⟨(some 24), .fad 2 (.tmp 9), none⟩),
  (3, ⟨(some 25), .load false 1 (.tmp 24), none⟩),
  (4, ⟨(some 26), .ixS 1 (.tmp 23) (.tmp 25), none⟩),
  (5, ⟨(some 27), .load false 1 (.tmp 26), none⟩),
  (6, ⟨(some 10), .mv (.tmp 27), none⟩)]
abbrev f15r5 : Pc := .reg f15o5 [2, 4, 7, 9, 10, 16, 17, 18] []
abbrev f15o6 : List (Nat × Pop) := [
  (0, ⟨(some 28), .mv (.tmp 7), none⟩),
  (1, ⟨(some 29), .mv (.tmp 10), none⟩),
  (2, ⟨(some 30), .fad 0 (.tmp 9), none⟩),
  (3, ⟨(some 31), .load false 1 (.tmp 30), none⟩),
  (4, ⟨(some 32), .fad 1 (.tmp 9), none⟩),
  (5, ⟨(some 33), .load false 1 (.tmp 32), none⟩),
  (6, ⟨(some 34), .bin .add (.tmp 31) (.tmp 33), none⟩),
  (7, ⟨(some 35), .mv (.tmp 10), none⟩),
  (8, ⟨(some 36), .lenL (.tmp 35), none⟩),
  (9, ⟨(some 37), .bin .rem (.tmp 34) (.tmp 36), none⟩),
  (10, ⟨(some 38), .ixS 1 (.tmp 29) (.tmp 37), none⟩),
  (11, ⟨(some 39), .load false 1 (.tmp 38), none⟩),
  (12, ⟨(some 40), .fad 0 (.tmp 9), none⟩),
  (13, ⟨(some 41), .load false 1 (.tmp 40), none⟩),
  (14, ⟨(some 42), .fad 1 (.tmp 9), none⟩),
  (15, ⟨(some 43), .load false 1 (.tmp 42), none⟩),
  (16, ⟨(some 44), .fad 2 (.tmp 9), none⟩),
  (17, ⟨(some 45), .load false 1 (.tmp 44), none⟩),
  (18, ⟨(some 46), .fad 0 (.tmp 4), none⟩),
  (19, ⟨(some 47), .load false 1 (.tmp 46), none⟩),
  (20, ⟨(some 48), .mv (.tmp 2), none⟩),
  (21, ⟨(some 49), .fad 0 (.tmp 9), none⟩),
  (22, ⟨(some 50), .load false 1 (.tmp 49), none⟩),
  (23, ⟨(some 51), .ixS 1 (.tmp 48) (.tmp 50), none⟩),
  (24, ⟨(some 52), .load false 1 (.tmp 51), none⟩),
  (25, ⟨(some 53), .build [(.t (.i .i64 0)), (.t (.i .i64 0)), (.t (.i .i64 0)), (.t (.i .i64 0)), (.t (.i .i64 0)), (.t (.i .i64 0)), (.t (.i .i64 0)), (.t (.i .i64 0)), (.t (.i .i64 0)), (.t (.i .i64 0)), .nl] [(0, 1, (.c (.t (.i .i64 1)))), (2, 1, (.tmp 39)), (4, 1, (.c (.t (.i .i64 1)))), (6, 1, (.tmp 41)), (7, 1, (.tmp 43)), (8, 1, (.tmp 45)), (9, 1, (.tmp 47)), (10, 1, (.tmp 52))], none⟩),
  (26, ⟨(some 54), .bslT 11 [(.tmp 53)], none⟩),
  (27, ⟨(some 55), .app 44 11 104 (.tmp 28) (.tmp 54), none⟩),
  (28, ⟨(some 7), .mv (.tmp 55), none⟩)]
abbrev f15r6 : Pc := .reg f15o6 [2, 4, 7, 16, 17, 18] [9]
abbrev f15o7 : List (Nat × Pop) := [
  (0, ⟨(some 56), .bin .add (.tmp 18) (.c (.t (.i .i64 1))), none⟩),
  (1, ⟨(some 18), .mv (.tmp 56), none⟩)]
abbrev f15r7 : Pc := .reg f15o7 [2, 4, 7, 16, 17, 18] []
def f15l0 : Pc := (.seq f15r3 (.seq (.cond (.tmp 19) .skip (.exit 0)) (.seq (.block 1 (.seq f15r4 (.seq f15r5 f15r6))) f15r7)))
theorem f15l0e (C : Cfg) (s : St) : evL C f15l0 s = evL C (.seq f15r3 (.seq (.cond (.tmp 19) .skip (.exit 0)) (.seq (.block 1 (.seq f15r4 (.seq f15r5 f15r6))) f15r7))) s := rfl
abbrev f15o8 : List (Nat × Pop) := [
  (0, ⟨(some 57), .mv (.tmp 7), none⟩),
  (1, ⟨(some 6), .mv (.tmp 57), none⟩)]
abbrev f15r8 : Pc := .reg f15o8 [6] [4]
abbrev f15b : Pc := (.seq f15r0 (.seq f15r1 (.seq (.seq f15r2 (.block 0 (.loop f15l0))) (.seq f15r8 .ret))))
abbrev f15 : Pfn := ⟨3, 58, [.tmp 6], f15b⟩
def f15K : Array (List Nat) := #[[2, 3, 4], [2, 3, 4, 7], [2, 4, 7, 16, 17, 18], [2, 4, 7, 16, 17, 18, 19], [2, 4, 7, 9, 16, 17, 18], [2, 4, 7, 9, 10, 16, 17, 18], [2, 4, 7, 16, 17, 18], [2, 4, 7, 16, 17, 18], [6]]
def f15H : Array (List Nat) := #[[6, 7, 55], [], [3], [], [], [], [9], [], [4]]
def f15A : Ann := ⟨fun r => f15K.getD r [], fun r => f15H.getD r [], fun r i => ([] : List (Nat × Nat)).contains (r, i)⟩
theorem f15C : compF Go.Proofs.Tryz.prog f15A 15 = some f15 := by kernel_rfl

/-- switchboard/switchboardref07.Put -/
abbrev f16o0 : List (Nat × Pop) := [
  (0, ⟨(some 1), .box 44 11 (.tmp 0), none⟩),
  (1, ⟨(some 2), .mv (.c (.t (.s []))), none⟩)]
abbrev f16r0 : Pc := .reg f16o0 [1] []
abbrev f16o1 : List (Nat × Pop) := [
  (0, ⟨(some 3), .mv (.c (.t (.s []))), none⟩)]
abbrev f16r1 : Pc := .reg f16o1 [1, 3] []
abbrev f16o2 : List (Nat × Pop) := [
  (0, ⟨(some 6), .load true 11 (.tmp 1), none⟩),
  (1, ⟨(some 7), .call 42 [(.tmp 6)], none⟩),
  (2, ⟨(some 8), .lenL (.tmp 7), none⟩),
  (3, ⟨(some 9), .mv (.c (.t (.i .i64 0))), none⟩)]
abbrev f16r2 : Pc := .reg f16o2 [3, 7, 8, 9] [1]
abbrev f16o3 : List (Nat × Pop) := [
  (0, ⟨(some 10), .bin .lss (.tmp 9) (.tmp 8), none⟩)]
abbrev f16r3 : Pc := .reg f16o3 [3, 7, 8, 9, 10] []
abbrev f16o4 : List (Nat × Pop) := [
  (0, ⟨(some 11), .ixS 1 (.tmp 7) (.tmp 9), none⟩),
  (1, ⟨(some 12), .load false 1 (.tmp 11), none⟩),
  (2, ⟨(some 5), .mv (.tmp 12), none⟩)]
abbrev f16r4 : Pc := .reg f16o4 [3, 5, 7, 8, 9] []
abbrev f16o5 : List (Nat × Pop) := [
  (0, ⟨(some 13), .mv (.tmp 3), none⟩),
  (1, ⟨(some 14), .mv (.tmp 5), none⟩),
  (2, ⟨(some 15), .call 43 [(.tmp 14)], none⟩),
  (3, ⟨(some 16), .bin .add (.tmp 13) (.tmp 15), none⟩),
  (4, ⟨(some 3), .mv (.tmp 16), none⟩)]
abbrev f16r5 : Pc := .reg f16o5 [3, 7, 8, 9] []
abbrev f16o6 : List (Nat × Pop) := [
  (0, ⟨(some 17), .bin .add (.tmp 9) (.c (.t (.i .i64 1))), none⟩),
  (1, ⟨(some 9), .mv (.tmp 17), none⟩)]
abbrev f16r6 : Pc := .reg f16o6 [3, 7, 8, 9] []
def f16l0 : Pc := (.seq f16r3 (.seq (.cond (.tmp 10) .skip (.exit 0)) (.seq (.block 1 (.seq f16r4 f16r5)) f16r6)))
theorem f16l0e (C : Cfg) (s : St) : evL C f16l0 s = evL C (.seq f16r3 (.seq (.cond (.tmp 10) .skip (.exit 0)) (.seq (.block 1 (.seq f16r4 f16r5)) f16r6))) s := rfl
abbrev f16o7 : List (Nat × Pop) := [
  (0, ⟨(some 18), .mv (.tmp 3), none⟩),
  (1, ⟨(some 19), .mv (.tmp 3), none⟩),
  (2, ⟨(some 20), .call 44 [(.tmp 19)], none⟩),
  (3, ⟨(some 21), .call 43 [(.tmp 20)], none⟩),
  (4, ⟨(some 22), .bin .add (.tmp 18) (.tmp 21), none⟩),
  (5, ⟨(some 3), .mv (.tmp 22), none⟩)]
abbrev f16r7 : Pc := .reg f16o7 [3] []
abbrev f16o8 : List (Nat × Pop) := [
  (0, ⟨(some 23), .mv (.tmp 3), none⟩),
  (1, ⟨(some 24), .lenS (.tmp 23), none⟩),
  (2, ⟨(some 25), .call 43 [(.tmp 24)], none⟩),
  (3, ⟨(some 26), .mv (.tmp 3), none⟩),
  (4, ⟨(some 27), .bin .add (.tmp 25) (.tmp 26), none⟩),
  (5, ⟨(some 2), .mv (.tmp 27), none⟩)]
abbrev f16r8 : Pc := .reg f16o8 [2] []
abbrev f16b : Pc := (.seq f16r0 (.seq f16r1 (.seq (.seq f16r2 (.block 0 (.loop f16l0))) (.seq f16r7 (.seq f16r8 .ret)))))
abbrev f16 : Pfn := ⟨1, 28, [.tmp 2], f16b⟩
def f16K : Array (List Nat) := #[[1], [1, 3], [3, 7, 8, 9], [3, 7, 8, 9, 10], [3, 5, 7, 8, 9], [3, 7, 8, 9], [3, 7, 8, 9], [3], [2]]
def f16H : Array (List Nat) := #[[], [], [1], [], [], [], [], [], []]
def f16A : Ann := ⟨fun r => f16K.getD r [], fun r => f16H.getD r [], fun r i => ([] : List (Nat × Nat)).contains (r, i)⟩
theorem f16C : compF Go.Proofs.Tryz.prog f16A 16 = some f16 := by kernel_rfl

/-- (*switchboard/fleet.Fleet).Done -/
abbrev f17o0 : List (Nat × Pop) := [
  (0, ⟨(some 2), .nilv 42 1, none⟩),
  (1, ⟨(some 3), .mv (.c (.t (.b false))), none⟩)]
abbrev f17r0 : Pc := .reg f17o0 [0] []
abbrev f17o1 : List (Nat × Pop) := [
  (0, ⟨(some 4), .mv (.tmp 0), none⟩),
  (1, ⟨(some 5), .nchk (.tmp 4), none⟩),
  (2, ⟨(some 6), .fad 11 (.tmp 5), none⟩),
  (3, ⟨(some 7), .load false 1 (.tmp 6), none⟩),
  (4, ⟨(some 8), .mv (.tmp 0), none⟩),
  (5, ⟨(some 9), .nchk (.tmp 8), none⟩),
  (6, ⟨(some 10), .fad 0 (.tmp 9), none⟩),
  (7, ⟨(some 11), .fad 1 (.tmp 10), none⟩),
  (8, ⟨(some 12), .load false 1 (.tmp 11), none⟩),
  (9, ⟨(some 13), .lenL (.tmp 12), none⟩),
  (10, ⟨(some 14), .bin .lss (.tmp 7) (.tmp 13), none⟩)]
abbrev f17r1 : Pc := .reg f17o1 [0, 14] []
abbrev f17o2 : List (Nat × Pop) := [
  (0, ⟨(some 2), .nilv 42 1, none⟩),
  (1, ⟨(some 3), .mv (.c (.t (.b false))), none⟩)]
abbrev f17r2 : Pc := .reg f17o2 [2, 3] []
abbrev f17o3 : List (Nat × Pop) := [
  (0, ⟨(some 15), .mv (.tmp 0), none⟩),
  (1, ⟨(some 16), .nchk (.tmp 15), none⟩),
  (2, ⟨(some 17), .fad 10 (.tmp 16), none⟩),
  (3, ⟨(some 18), .load false 1 (.tmp 17), none⟩),
  (4, ⟨(some 19), .call 35 [(.tmp 18)], none⟩),
  (5, ⟨(some 2), .mv (.tmp 19), none⟩),
  (6, ⟨(some 3), .mv (.c (.t (.b true))), none⟩)]
abbrev f17r3 : Pc := .reg f17o3 [2, 3] []
abbrev f17b : Pc := (.seq f17r0 (.seq (.seq f17r1 (.cond (.tmp 14) (.seq f17r2 .ret) .skip)) (.seq f17r3 .ret)))
abbrev f17 : Pfn := ⟨1, 20, [.tmp 2, .tmp 3], f17b⟩
def f17K : Array (List Nat) := #[[0], [0, 14], [2, 3], [2, 3]]
def f17H : Array (List Nat) := #[[], [], [], []]
def f17A : Ann := ⟨fun r => f17K.getD r [], fun r => f17H.getD r [], fun r i => ([] : List (Nat × Nat)).contains (r, i)⟩
theorem f17C : compF Go.Proofs.Tryz.prog f17A 17 = some f17 := by kernel_rfl

/-- (*switchboard/fleet.Fleet).Worked -/
abbrev f18o0 : List (Nat × Pop) := [
  (0, ⟨(some 2), .mv (.c (.t (.i .i64 0))), none⟩)]
abbrev f18r0 : Pc := .reg f18o0 [0] []
abbrev f18o1 : List (Nat × Pop) := [
  (0, ⟨(some 3), .mv (.c (.t (.i .i64 0))), none⟩)]
abbrev f18r1 : Pc := .reg f18o1 [0, 3] []
abbrev f18o2 : List (Nat × Pop) := [
  (0, ⟨(some 6), .mv (.tmp 0), none⟩),
  (1, ⟨(some 7), .nchk (.tmp 6), none⟩),
  (2, ⟨(some 8), .fad 4 (.tmp 7), none⟩),
  (3, ⟨(some 9), .load true 5 (.tmp 8), none⟩),
  (4, ⟨(some 10), .mv (.c (.t (.i .i64 0))), none⟩)]
abbrev f18r2 : Pc := .reg f18o2 [3, 9, 10] []
abbrev f18o3 : List (Nat × Pop) := [
  (0, ⟨(some 11), .bin .lss (.tmp 10) (.c (.t (.i .i64 5))), none⟩)]
abbrev f18r3 : Pc := .reg f18o3 [3, 9, 10, 11] []
abbrev f18o4 : List (Nat × Pop) := [
  (0, ⟨(some 12), .ixV false 5 1 (.tmp 9) (.tmp 10), none⟩),
  (1, ⟨(some 5), .mv (.tmp 12), none⟩)]
abbrev f18r4 : Pc := .reg f18o4 [3, 5, 9, 10] []
abbrev f18o5 : List (Nat × Pop) := [
  (0, ⟨(some 13), .mv (.tmp 3), none⟩),
  (1, ⟨(some 14), .mv (.tmp 5), none⟩),
  (2, ⟨(some 15), .lenL (.tmp 14), none⟩),
  (3, ⟨(some 16), .bin .add (.tmp 13) (.tmp 15), none⟩),
  (4, ⟨(some 3), .mv (.tmp 16), none⟩)]
abbrev f18r5 : Pc := .reg f18o5 [3, 9, 10] []
abbrev f18o6 : List (Nat × Pop) := [
  (0, ⟨(some 17), .bin .add (.tmp 10) (.c (.t (.i .i64 1))), none⟩),
  (1, ⟨(some 10), .mv (.tmp 17), none⟩)]
abbrev f18r6 : Pc := .reg f18o6 [3, 9, 10] []
def f18l0 : Pc := (.seq f18r3 (.seq (.cond (.tmp 11) .skip (.exit 0)) (.seq (.block 1 (.seq f18r4 f18r5)) f18r6)))
theorem f18l0e (C : Cfg) (s : St) : evL C f18l0 s = evL C (.seq f18r3 (.seq (.cond (.tmp 11) .skip (.exit 0)) (.seq (.block 1 (.seq f18r4 f18r5)) f18r6))) s := rfl
abbrev f18o7 : List (Nat × Pop) := [
  (0, ⟨(some 18), .mv (.tmp 3), none⟩),
  (1, ⟨(some 2), .mv (.tmp 18), none⟩)]
abbrev f18r7 : Pc := .reg f18o7 [2] []
abbrev f18b : Pc := (.seq f18r0 (.seq f18r1 (.seq (.seq f18r2 (.block 0 (.loop f18l0))) (.seq f18r7 .ret))))
abbrev f18 : Pfn := ⟨1, 19, [.tmp 2], f18b⟩
def f18K : Array (List Nat) := #[[0], [0, 3], [3, 9, 10], [3, 9, 10, 11], [3, 5, 9, 10], [3, 9, 10], [3, 9, 10], [2]]
def f18H : Array (List Nat) := #[[], [], [], [], [], [], [], []]
def f18A : Ann := ⟨fun r => f18K.getD r [], fun r => f18H.getD r [], fun r i => ([] : List (Nat × Nat)).contains (r, i)⟩
theorem f18C : compF Go.Proofs.Tryz.prog f18A 18 = some f18 := by kernel_rfl

/-- switchboard/switchboardref15.Parts -/
abbrev f19o0 : List (Nat × Pop) := [
  (0, ⟨(some 2), .box 53 3 (.tmp 0), none⟩),
  (1, ⟨(some 4), .nilv 82 4, none⟩)]
abbrev f19r0 : Pc := .reg f19o0 [1, 2] [4, 10, 69, 87]
abbrev f19o1 : List (Nat × Pop) := [
  (0, ⟨(some 5), .nilv 91 2, none⟩)]
abbrev f19r1 : Pc := .reg f19o1 [1, 2, 5] []
abbrev f19o2 : List (Nat × Pop) := [
  (0, ⟨(some 14), .mv (.tmp 1), none⟩),
  (1, ⟨(some 15), .lenL (.tmp 14), none⟩),
  (2, ⟨(some 16), .mv (.c (.t (.i .i64 0))), none⟩)]
abbrev f19r2 : Pc := .reg f19o2 [1, 2, 5, 14, 15, 16] []
abbrev f19o3 : List (Nat × Pop) := [
  (0, ⟨(some 17), .bin .lss (.tmp 16) (.tmp 15), none⟩)]
abbrev f19r3 : Pc := .reg f19o3 [1, 2, 5, 14, 15, 16, 17] []
abbrev f19o4 : List (Nat × Pop) := [
  (0, ⟨(some 18), .ixS 1 (.tmp 14) (.tmp 16), none⟩),
  (1, ⟨(some 19), .load false 1 (.tmp 18), none⟩),
  (2, ⟨(some 7), .mv (.tmp 19), none⟩)]
abbrev f19r4 : Pc := .reg f19o4 [1, 2, 5, 7, 14, 15, 16] []
abbrev f19o5 : List (Nat × Pop) := [
  (0, ⟨(some 21), .fad 0 (.tmp 2), none⟩),
  (1, ⟨(some 22), .load false 1 (.tmp 21), none⟩),
  (2, ⟨(some 23), .mv (.tmp 7), none⟩),
  (3, ⟨(some 24), .call 45 [(.tmp 22), (.tmp 23)], none⟩),
  (4, ⟨(some 20), .mv (.tmp 24), none⟩),
  (5, ⟨(some 25), .ext 0 (.tmp 20), none⟩),
  (6, ⟨(some 26), .ext 1 (.tmp 20), none⟩),
  (7, ⟨(some 8), .alloc 88 [(.t (.i .i64 0)), (.t (.i .i64 0)), (.t (.i .i64 0)), (.t (.i .i64 0))], none⟩),
  (8, ⟨none, .store 4 (.tmp 8) (.tmp 25), none⟩),
  (9, ⟨(some 9), .mv (.tmp 26), none⟩)]
abbrev f19r5 : Pc := .reg f19o5 [1, 2, 5, 8, 14, 15, 16] []
abbrev f19o6 : List (Nat × Pop) := [
  (0, ⟨(some 27), .mv (.tmp 5), none⟩),
  (1, ⟨(some 28), .fad 0 (.tmp 8), none⟩),
  (2, ⟨(some 29), .load false 1 (.tmp 28), none⟩),
  (3, ⟨(some 30), .fad 1 (.tmp 8), none⟩),
  (4, ⟨(some 31), .load false 1 (.tmp 30), none⟩),
  (5, ⟨(some 32), .build [(.t (.i .i64 0)), (.t (.i .i64 0))] [(0, 1, (.tmp 29)), (1, 1, (.tmp 31))], none⟩),
  (6, ⟨(some 33), .bslT 2 [(.tmp 32)], none⟩),
  (7, ⟨(some 34), .app 91 2 16 (.tmp 27) (.tmp 33), none⟩),
  (8, ⟨(some 5), .mv (.tmp 34), none⟩)]
abbrev f19r6 : Pc := .reg f19o6 [1, 2, 5, 14, 15, 16] [8]
abbrev f19o7 : List (Nat × Pop) := [
  (0, ⟨(some 35), .bin .add (.tmp 16) (.c (.t (.i .i64 1))), none⟩),
  (1, ⟨(some 16), .mv (.tmp 35), none⟩)]
abbrev f19r7 : Pc := .reg f19o7 [1, 2, 5, 14, 15, 16] []
def f19l0 : Pc := (.seq f19r3 (.seq (.cond (.tmp 17) .skip (.exit 0)) (.seq (.block 1 (.seq f19r4 (.seq f19r5 f19r6))) f19r7)))
theorem f19l0e (C : Cfg) (s : St) : evL C f19l0 s = evL C (.seq f19r3 (.seq (.cond (.tmp 17) .skip (.exit 0)) (.seq (.block 1 (.seq f19r4 (.seq f19r5 f19r6))) f19r7))) s := rfl
abbrev f19o8 : List (Nat × Pop) := [
  (0, ⟨(some 10), .nilv 82 4, none⟩)]
abbrev f19r8 : Pc := .reg f19o8 [1, 2, 5, 10] []
abbrev f19o9 : List (Nat × Pop) := [
  (0, ⟨(some 11), .mv (.c (.t (.i .i64 0))), none⟩)]
abbrev f19r9 : Pc := .reg f19o9 [1, 2, 5, 10, 11] []
abbrev f19o10 : List (Nat × Pop) := [
  (0, ⟨(some 36), .mv (.tmp 11), none⟩),
  (1, ⟨(some 37), .mv (.tmp 1), none⟩),
  (2, ⟨(some 38), .lenL (.tmp 37), none⟩),
  (3, ⟨(some 39), .bin .lss (.tmp 36) (.tmp 38), none⟩)]
abbrev f19r10 : Pc := .reg f19o10 [1, 2, 5, 10, 11, 39] []
abbrev f19o12 : List (Nat × Pop) := [
  (0, ⟨(some 43), .fad 0 (.tmp 2), none⟩),
  (1, ⟨(some 44), .load false 1 (.tmp 43), none⟩),
  (2, ⟨(some 45), .mv (.tmp 1), none⟩),
  (3, ⟨(some 46), .mv (.tmp 11), none⟩),
  (4, ⟨(some 47), .ixS 1 (.tmp 45) (.tmp 46), none⟩),
  (5, ⟨(some 48), .load false 1 (.tmp 47), none⟩),
  (6, ⟨(some 49), .callq 45 [(.tmp 44), (.tmp 48)], none⟩),
  (7, ⟨(some 42), .mv (.tmp 49), none⟩),
  (8, ⟨(some 50), .ext 0 (.tmp 42), none⟩),
  (9, ⟨(some 51), .ext 1 (.tmp 42), none⟩),
  (10, ⟨(some 12), .alloc 88 [(.t (.i .i64 0)), (.t (.i .i64 0)), (.t (.i .i64 0)), (.t (.i .i64 0))], none⟩),
  (11, ⟨none, .store 4 (.tmp 12) (.tmp 50), none⟩),
  (12, ⟨(some 13), .mv (.tmp 51), none⟩)]
abbrev f19r12 : Pc := .reg f19o12 [1, 2, 5, 10, 11, 12] []
abbrev f19o13 : List (Nat × Pop) := [
  (0, ⟨(some 52), .mv (.tmp 5), none⟩),
  (1, ⟨(some 53), .fad 1 (.tmp 2), none⟩),
  (2, ⟨(some 54), .load false 1 (.tmp 53), none⟩),
  (3, ⟨(some 55), .lenL (.tmp 54), none⟩),
  (4, ⟨(some 56), .fad 2 (.tmp 2), none⟩),
  (5, ⟨(some 57), .load false 1 (.tmp 56), none⟩),
  (6, ⟨(some 58), .mv (.tmp 11), none⟩),
  (7, ⟨(some 59), .call 46 [(.tmp 52), (.tmp 55), (.tmp 57), (.tmp 58), (.c (.t (.i .i64 0)))], none⟩),
  (8, ⟨(some 60), .bin .geq (.tmp 59) (.c (.t (.i .i64 0))), none⟩)]
abbrev f19r13 : Pc := .reg f19o13 [1, 2, 5, 10, 11, 12, 60] []
abbrev f19o14 : List (Nat × Pop) := [
  (0, ⟨(some 61), .mv (.tmp 10), none⟩),
  (1, ⟨(some 62), .mv (.tmp 11), none⟩),
  (2, ⟨(some 63), .fad 0 (.tmp 12), none⟩),
  (3, ⟨(some 64), .load false 1 (.tmp 63), none⟩),
  (4, ⟨(some 65), .fad 2 (.tmp 12), none⟩),
  (5, ⟨(some 66), .load false 1 (.tmp 65), none⟩),
  (6, ⟨(some 67), .build [(.t (.i .i64 0)), (.t (.i .i64 0)), (.t (.i .i64 0)), (.t (.i .i64 0))] [(0, 1, (.tmp 62)), (1, 1, (.c (.t (.i .i64 0)))), (2, 1, (.tmp 64)), (3, 1, (.tmp 66))], none⟩),
  (7, ⟨(some 68), .bslT 4 [(.tmp 67)], none⟩),
  (8, ⟨(some 69), .app 82 4 32 (.tmp 61) (.tmp 68), none⟩),
  (9, ⟨(some 10), .mv (.tmp 69), none⟩)]
abbrev f19r14 : Pc := .reg f19o14 [1, 2, 5, 10, 11, 12] []
abbrev f19o15 : List (Nat × Pop) := [
  (0, ⟨(some 70), .mv (.tmp 5), none⟩),
  (1, ⟨(some 71), .fad 1 (.tmp 2), none⟩),
  (2, ⟨(some 72), .load false 1 (.tmp 71), none⟩),
  (3, ⟨(some 73), .lenL (.tmp 72), none⟩),
  (4, ⟨(some 74), .fad 2 (.tmp 2), none⟩),
  (5, ⟨(some 75), .load false 1 (.tmp 74), none⟩),
  (6, ⟨(some 76), .mv (.tmp 11), none⟩),
  (7, ⟨(some 77), .call 46 [(.tmp 70), (.tmp 73), (.tmp 75), (.tmp 76), (.c (.t (.i .i64 1)))], none⟩),
  (8, ⟨(some 78), .bin .geq (.tmp 77) (.c (.t (.i .i64 0))), none⟩)]
abbrev f19r15 : Pc := .reg f19o15 [1, 2, 5, 10, 11, 12, 78] []
abbrev f19o16 : List (Nat × Pop) := [
  (0, ⟨(some 79), .mv (.tmp 10), none⟩),
  (1, ⟨(some 80), .mv (.tmp 11), none⟩),
  (2, ⟨(some 81), .fad 1 (.tmp 12), none⟩),
  (3, ⟨(some 82), .load false 1 (.tmp 81), none⟩),
  (4, ⟨(some 83), .fad 3 (.tmp 12), none⟩),
  (5, ⟨(some 84), .load false 1 (.tmp 83), none⟩),
  (6, ⟨(some 85), .build [(.t (.i .i64 0)), (.t (.i .i64 0)), (.t (.i .i64 0)), (.t (.i .i64 0))] [(0, 1, (.tmp 80)), (1, 1, (.c (.t (.i .i64 1)))), (2, 1, (.tmp 82)), (3, 1, (.tmp 84))], none⟩),
  (7, ⟨(some 86), .bslT 4 [(.tmp 85)], none⟩),
  (8, ⟨(some 87), .app 82 4 32 (.tmp 79) (.tmp 86), none⟩),
  (9, ⟨(some 10), .mv (.tmp 87), none⟩)]
abbrev f19r16 : Pc := .reg f19o16 [1, 2, 5, 10, 11] [12]
abbrev f19o11 : List (Nat × Pop) := [
  (0, ⟨(some 40), .mv (.tmp 11), none⟩),
  (1, ⟨(some 41), .bin .add (.tmp 40) (.c (.t (.i .i64 1))), none⟩),
  (2, ⟨(some 11), .mv (.tmp 41), none⟩)]
abbrev f19r11 : Pc := .reg f19o11 [1, 2, 5, 10, 11] [12]
def f19l1 : Pc := (.seq (.seq f19r10 (.cond (.tmp 39) .skip (.exit 2))) (.seq (.block 3 (.seq f19r12 (.seq (.seq f19r13 (.cond (.tmp 60) f19r14 .skip)) (.seq f19r15 (.cond (.tmp 78) f19r16 .skip))))) f19r11))
theorem f19l1e (C : Cfg) (s : St) : evL C f19l1 s = evL C (.seq (.seq f19r10 (.cond (.tmp 39) .skip (.exit 2))) (.seq (.block 3 (.seq f19r12 (.seq (.seq f19r13 (.cond (.tmp 60) f19r14 .skip)) (.seq f19r15 (.cond (.tmp 78) f19r16 .skip))))) f19r11)) s := rfl
abbrev f19o17 : List (Nat × Pop) := [
  (0, ⟨(some 88), .mv (.tmp 10), none⟩),
  (1, ⟨(some 4), .mv (.tmp 88), none⟩)]
abbrev f19r17 : Pc := .reg f19o17 [4] [2, 5, 34]
abbrev f19b : Pc := (.seq f19r0 (.seq f19r1 (.seq (.seq f19r2 (.block 0 (.loop f19l0))) (.seq f19r8 (.seq (.seq f19r9 (.block 2 (.loop f19l1))) (.seq f19r17 .ret))))))
abbrev f19 : Pfn := ⟨2, 89, [.tmp 4], f19b⟩
def f19K : Array (List Nat) := #[[1, 2], [1, 2, 5], [1, 2, 5, 14, 15, 16], [1, 2, 5, 14, 15, 16, 17], [1, 2, 5, 7, 14, 15, 16], [1, 2, 5, 8, 14, 15, 16], [1, 2, 5, 14, 15, 16], [1, 2, 5, 14, 15, 16], [1, 2, 5, 10], [1, 2, 5, 10, 11], [1, 2, 5, 10, 11, 39], [1, 2, 5, 10, 11], [1, 2, 5, 10, 11, 12], [1, 2, 5, 10, 11, 12, 60], [1, 2, 5, 10, 11, 12], [1, 2, 5, 10, 11, 12, 78], [1, 2, 5, 10, 11], [4]]
def f19H : Array (List Nat) := #[[4, 10, 69, 87], [], [], [], [], [], [8], [], [], [], [], [12], [], [], [], [], [12], [2, 5, 34]]
def f19A : Ann := ⟨fun r => f19K.getD r [], fun r => f19H.getD r [], fun r i => ([] : List (Nat × Nat)).contains (r, i)⟩
theorem f19C : compF Go.Proofs.Tryz.prog f19A 19 = some f19 := by kernel_rfl

/-- switchboard/switchboardref15.Forward -/
abbrev f20o0 : List (Nat × Pop) := [
  (0, ⟨(some 2), .box 24 2 (.tmp 0), none⟩),
  (1, ⟨(some 4), .nilv 42 1, none⟩)]
abbrev f20r0 : Pc := .reg f20o0 [1, 2] [4]
abbrev f20o1 : List (Nat × Pop) := [
  (0, ⟨(some 13), .fad 1 (.tmp 2), none⟩),
  (1, ⟨(some 14), .load false 1 (.tmp 13), none⟩),
  (2, ⟨(some 15), .lenL (.tmp 14), none⟩),
  (3, ⟨(some 16), .mv (.c (.t (.i .i64 0))), none⟩)]
abbrev f20r1 : Pc := .reg f20o1 [1, 14, 15, 16] [2]
abbrev f20o2 : List (Nat × Pop) := [
  (0, ⟨(some 17), .bin .lss (.tmp 16) (.tmp 15), none⟩)]
abbrev f20r2 : Pc := .reg f20o2 [1, 14, 15, 16, 17] []
abbrev f20o3 : List (Nat × Pop) := [
  (0, ⟨(some 18), .ixS 3 (.tmp 14) (.tmp 16), none⟩),
  (1, ⟨(some 19), .load true 3 (.tmp 18), none⟩),
  (2, ⟨(some 6), .alloc 53 [.nl, .nl, (.t (.i .i64 0))], none⟩),
  (3, ⟨none, .store 3 (.tmp 6) (.tmp 19), none⟩)]
abbrev f20r3 : Pc := .reg f20o3 [1, 6, 14, 15, 16] []
abbrev f20o4 : List (Nat × Pop) := [
  (0, ⟨(some 20), .load true 3 (.tmp 6), none⟩),
  (1, ⟨(some 21), .mv (.tmp 1), none⟩),
  (2, ⟨(some 22), .call 19 [(.tmp 20), (.tmp 21)], none⟩),
  (3, ⟨(some 7), .mv (.tmp 22), none⟩)]
abbrev f20r4 : Pc := .reg f20o4 [1, 6, 7, 14, 15, 16] []
abbrev f20o5 : List (Nat × Pop) := [
  (0, ⟨(some 8), .nilv 42 1, none⟩)]
abbrev f20r5 : Pc := .reg f20o5 [1, 6, 7, 8, 14, 15, 16] []
abbrev f20o6 : List (Nat × Pop) := [
  (0, ⟨(some 9), .mv (.c (.t (.i .i64 0))), none⟩)]
abbrev f20r6 : Pc := .reg f20o6 [1, 6, 7, 8, 9, 14, 15, 16] []
abbrev f20o7 : List (Nat × Pop) := [
  (0, ⟨(some 23), .mv (.tmp 9), none⟩),
  (1, ⟨(some 24), .mv (.tmp 1), none⟩),
  (2, ⟨(some 25), .lenL (.tmp 24), none⟩),
  (3, ⟨(some 26), .bin .lss (.tmp 23) (.tmp 25), none⟩)]
abbrev f20r7 : Pc := .reg f20o7 [1, 6, 7, 8, 9, 14, 15, 16, 26] []
abbrev f20o9 : List (Nat × Pop) := [
  (0, ⟨(some 29), .mv (.tmp 1), none⟩),
  (1, ⟨(some 30), .mv (.tmp 9), none⟩),
  (2, ⟨(some 31), .ixS 1 (.tmp 29) (.tmp 30), none⟩),
  (3, ⟨(some 32), .load false 1 (.tmp 31), none⟩),
  (4, ⟨(some 10), .mv (.tmp 32), none⟩)]
abbrev f20r9 : Pc := .reg f20o9 [1, 6, 7, 8, 9, 10, 14, 15, 16] []
abbrev f20o10 : List (Nat × Pop) := [
  (0, ⟨(some 33), .mv (.tmp 7), none⟩),
  (1, ⟨(some 34), .lenL (.tmp 33), none⟩),
  (2, ⟨(some 35), .mv (.c (.t (.i .i64 0))), none⟩)]
abbrev f20r10 : Pc := .reg f20o10 [1, 6, 7, 8, 9, 10, 14, 15, 16, 33, 34, 35] []
abbrev f20o11 : List (Nat × Pop) := [
  (0, ⟨(some 36), .bin .lss (.tmp 35) (.tmp 34), none⟩)]
abbrev f20r11 : Pc := .reg f20o11 [1, 6, 7, 8, 9, 10, 14, 15, 16, 33, 34, 35, 36] []
abbrev f20o12 : List (Nat × Pop) := [
  (0, ⟨(some 37), .ixS 4 (.tmp 33) (.tmp 35), none⟩),
  (1, ⟨(some 38), .load true 4 (.tmp 37), none⟩),
  (2, ⟨(some 12), .alloc 82 [(.t (.i .i64 0)), (.t (.i .i64 0)), (.t (.i .i64 0)), (.t (.i .i64 0))], none⟩),
  (3, ⟨none, .store 4 (.tmp 12) (.tmp 38), none⟩)]
abbrev f20r12 : Pc := .reg f20o12 [1, 6, 7, 8, 9, 10, 12, 14, 15, 16, 33, 34, 35] []
abbrev f20o13 : List (Nat × Pop) := [
  (0, ⟨(some 39), .fad 0 (.tmp 12), none⟩),
  (1, ⟨(some 40), .load false 1 (.tmp 39), none⟩),
  (2, ⟨(some 41), .mv (.tmp 9), none⟩),
  (3, ⟨(some 42), .bin .eql (.tmp 40) (.tmp 41), none⟩)]
abbrev f20r13 : Pc := .reg f20o13 [1, 6, 7, 8, 9, 10, 12, 14, 15, 16, 33, 34, 35, 42] []
abbrev f20o14 : List (Nat × Pop) := [
  (0, ⟨(some 43), .mv (.tmp 10), none⟩),
  (1, ⟨(some 44), .fad 1 (.tmp 6), none⟩),
  (2, ⟨(some 45), .load false 1 (.tmp 44), none⟩),
  (3, ⟨(some 46), .fad 2 (.tmp 12), none⟩),
  (4, ⟨(some 47), .load false 1 (.tmp 46), none⟩),
  (5, ⟨(some 48), .ixS 2 (.tmp 45) (.tmp 47), none⟩),
  (6, ⟨(some 49), .load true 2 (.tmp 48), none⟩),
  (7, ⟨(some 50), .mv (.tmp 1), none⟩),
  (8, ⟨(some 51), .mv (.tmp 9), none⟩),
  (9, ⟨(some 52), .ixS 1 (.tmp 50) (.tmp 51), none⟩),
  (10, ⟨(some 53), .load false 1 (.tmp 52), none⟩),
  (11, ⟨(some 54), .callq 49 [(.tmp 49), (.tmp 53)], none⟩),
  (12, ⟨(some 55), .fad 3 (.tmp 12), none⟩),
  (13, ⟨(some 56), .load false 1 (.tmp 55), none⟩),
  (14, ⟨(some 57), .callq 48 [(.tmp 54), (.tmp 56)], none⟩),
  (15, ⟨(some 58), .callq 47 [(.tmp 43), (.tmp 57)], none⟩),
  (16, ⟨(some 10), .mv (.tmp 58), none⟩)]
abbrev f20r14 : Pc := .reg f20o14 [1, 6, 7, 8, 9, 10, 14, 15, 16, 33, 34, 35] [12]
abbrev f20o15 : List (Nat × Pop) := [
  (0, ⟨(some 59), .bin .add (.tmp 35) (.c (.t (.i .i64 1))), none⟩),
  (1, ⟨(some 35), .mv (.tmp 59), none⟩)]
abbrev f20r15 : Pc := .reg f20o15 [1, 6, 7, 8, 9, 10, 14, 15, 16, 33, 34, 35] [12]
def f20l0 : Pc := (.seq f20r11 (.seq (.cond (.tmp 36) .skip (.exit 4)) (.seq (.block 5 (.seq f20r12 (.seq f20r13 (.cond (.tmp 42) f20r14 .skip)))) f20r15)))
theorem f20l0e (C : Cfg) (s : St) : evL C f20l0 s = evL C (.seq f20r11 (.seq (.cond (.tmp 36) .skip (.exit 4)) (.seq (.block 5 (.seq f20r12 (.seq f20r13 (.cond (.tmp 42) f20r14 .skip)))) f20r15))) s := rfl
abbrev f20o16 : List (Nat × Pop) := [
  (0, ⟨(some 60), .mv (.tmp 8), none⟩),
  (1, ⟨(some 61), .mv (.tmp 10), none⟩),
  (2, ⟨(some 62), .bslT 1 [(.tmp 61)], none⟩),
  (3, ⟨(some 63), .app 42 1 24 (.tmp 60) (.tmp 62), none⟩),
  (4, ⟨(some 8), .mv (.tmp 63), none⟩)]
abbrev f20r16 : Pc := .reg f20o16 [1, 6, 7, 8, 9, 14, 15, 16] []
abbrev f20o8 : List (Nat × Pop) := [
  (0, ⟨(some 27), .mv (.tmp 9), none⟩),
  (1, ⟨(some 28), .bin .add (.tmp 27) (.c (.t (.i .i64 1))), none⟩),
  (2, ⟨(some 9), .mv (.tmp 28), none⟩)]
abbrev f20r8 : Pc := .reg f20o8 [1, 6, 7, 8, 9, 14, 15, 16] []
def f20l1 : Pc := (.seq (.seq f20r7 (.cond (.tmp 26) .skip (.exit 2))) (.seq (.block 3 (.seq f20r9 (.seq (.seq f20r10 (.block 4 (.loop f20l0))) f20r16))) f20r8))
theorem f20l1e (C : Cfg) (s : St) : evL C f20l1 s = evL C (.seq (.seq f20r7 (.cond (.tmp 26) .skip (.exit 2))) (.seq (.block 3 (.seq f20r9 (.seq (.seq f20r10 (.block 4 (.loop f20l0))) f20r16))) f20r8)) s := rfl
abbrev f20o17 : List (Nat × Pop) := [
  (0, ⟨(some 64), .mv (.tmp 8), none⟩),
  (1, ⟨(some 1), .mv (.tmp 64), none⟩)]
abbrev f20r17 : Pc := .reg f20o17 [1, 14, 15, 16] [6]
abbrev f20o18 : List (Nat × Pop) := [
  (0, ⟨(some 65), .bin .add (.tmp 16) (.c (.t (.i .i64 1))), none⟩),
  (1, ⟨(some 16), .mv (.tmp 65), none⟩)]
abbrev f20r18 : Pc := .reg f20o18 [1, 14, 15, 16] []
def f20l2 : Pc := (.seq f20r2 (.seq (.cond (.tmp 17) .skip (.exit 0)) (.seq (.block 1 (.seq f20r3 (.seq f20r4 (.seq f20r5 (.seq (.seq f20r6 (.block 2 (.loop f20l1))) f20r17))))) f20r18)))
theorem f20l2e (C : Cfg) (s : St) : evL C f20l2 s = evL C (.seq f20r2 (.seq (.cond (.tmp 17) .skip (.exit 0)) (.seq (.block 1 (.seq f20r3 (.seq f20r4 (.seq f20r5 (.seq (.seq f20r6 (.block 2 (.loop f20l1))) f20r17))))) f20r18))) s := rfl
abbrev f20o19 : List (Nat × Pop) := [
  (0, ⟨(some 66), .mv (.tmp 1), none⟩),
  (1, ⟨(some 4), .mv (.tmp 66), none⟩)]
abbrev f20r19 : Pc := .reg f20o19 [4] []
abbrev f20b : Pc := (.seq f20r0 (.seq (.seq f20r1 (.block 0 (.loop f20l2))) (.seq f20r19 .ret)))
abbrev f20 : Pfn := ⟨2, 67, [.tmp 4], f20b⟩
def f20K : Array (List Nat) := #[[1, 2], [1, 14, 15, 16], [1, 14, 15, 16, 17], [1, 6, 14, 15, 16], [1, 6, 7, 14, 15, 16], [1, 6, 7, 8, 14, 15, 16], [1, 6, 7, 8, 9, 14, 15, 16], [1, 6, 7, 8, 9, 14, 15, 16, 26], [1, 6, 7, 8, 9, 14, 15, 16], [1, 6, 7, 8, 9, 10, 14, 15, 16], [1, 6, 7, 8, 9, 10, 14, 15, 16, 33, 34, 35], [1, 6, 7, 8, 9, 10, 14, 15, 16, 33, 34, 35, 36], [1, 6, 7, 8, 9, 10, 12, 14, 15, 16, 33, 34, 35], [1, 6, 7, 8, 9, 10, 12, 14, 15, 16, 33, 34, 35, 42], [1, 6, 7, 8, 9, 10, 14, 15, 16, 33, 34, 35], [1, 6, 7, 8, 9, 10, 14, 15, 16, 33, 34, 35], [1, 6, 7, 8, 9, 14, 15, 16], [1, 14, 15, 16], [1, 14, 15, 16], [4]]
def f20H : Array (List Nat) := #[[4], [2], [], [], [], [], [], [], [], [], [], [], [], [], [12], [12], [], [6], [], []]
def f20A : Ann := ⟨fun r => f20K.getD r [], fun r => f20H.getD r [], fun r i => ([] : List (Nat × Nat)).contains (r, i)⟩
theorem f20C : compF Go.Proofs.Tryz.prog f20A 20 = some f20 := by kernel_rfl

/-- (*switchboard/fleet.Fleet).Deliver -/
abbrev f21o0 : List (Nat × Pop) := [
  (0, ⟨(some 4), .mv (.c (.t (.i .i64 0))), none⟩)]
abbrev f21r0 : Pc := .reg f21o0 [0, 1] []
abbrev f21o1 : List (Nat × Pop) := [
  (0, ⟨(some 14), .mv (.tmp 0), none⟩),
  (1, ⟨(some 15), .nchk (.tmp 14), none⟩),
  (2, ⟨(some 16), .fad 9 (.tmp 15), none⟩),
  (3, ⟨(some 17), .load false 1 (.tmp 16), none⟩),
  (4, ⟨(some 18), .mv (.tmp 1), none⟩),
  (5, ⟨(some 19), .call 50 [(.tmp 17), (.tmp 18)], none⟩),
  (6, ⟨(some 13), .mv (.tmp 19), none⟩),
  (7, ⟨(some 20), .ext 0 (.tmp 13), none⟩),
  (8, ⟨(some 21), .ext 1 (.tmp 13), none⟩),
  (9, ⟨(some 22), .ext 2 (.tmp 13), none⟩),
  (10, ⟨(some 5), .mv (.tmp 20), none⟩),
  (11, ⟨(some 6), .mv (.tmp 21), none⟩),
  (12, ⟨(some 7), .mv (.tmp 22), none⟩)]
abbrev f21r1 : Pc := .reg f21o1 [0, 5, 6, 7] []
abbrev f21o2 : List (Nat × Pop) := [
  (0, ⟨(some 23), .mv (.tmp 7), none⟩),
  (1, ⟨(some 24), .un .not (.tmp 23), none⟩)]
abbrev f21r2 : Pc := .reg f21o2 [0, 5, 6, 24] []
abbrev f21o3 : List (Nat × Pop) := [
  (0, ⟨(some 4), .mv (.c (.t (.i .i64 4))), none⟩)]
abbrev f21r3 : Pc := .reg f21o3 [4] []
abbrev f21o4 : List (Nat × Pop) := [
  (0, ⟨(some 25), .mv (.tmp 0), none⟩),
  (1, ⟨(some 26), .mv (.tmp 6), none⟩),
  (2, ⟨(some 27), .nchk (.tmp 25), none⟩),
  (3, ⟨(some 28), .fad 9 (.tmp 27), none⟩),
  (4, ⟨none, .store 1 (.tmp 28) (.tmp 26), none⟩)]
abbrev f21r4 : Pc := .reg f21o4 [0, 5] []
abbrev f21o5 : List (Nat × Pop) := [
  (0, ⟨(some 30), .mv (.tmp 5), none⟩),
  (1, ⟨(some 31), .call 51 [(.tmp 30)], none⟩),
  (2, ⟨(some 29), .mv (.tmp 31), none⟩),
  (3, ⟨(some 32), .ext 0 (.tmp 29), none⟩),
  (4, ⟨(some 33), .ext 1 (.tmp 29), none⟩),
  (5, ⟨(some 8), .alloc 44 [(.t (.i .i64 0)), (.t (.i .i64 0)), (.t (.i .i64 0)), (.t (.i .i64 0)), (.t (.i .i64 0)), (.t (.i .i64 0)), (.t (.i .i64 0)), (.t (.i .i64 0)), (.t (.i .i64 0)), (.t (.i .i64 0)), .nl], none⟩),
  (6, ⟨none, .store 11 (.tmp 8) (.tmp 32), none⟩),
  (7, ⟨(some 9), .mv (.tmp 33), none⟩)]
abbrev f21r5 : Pc := .reg f21o5 [0, 8, 9] []
abbrev f21o6 : List (Nat × Pop) := [
  (0, ⟨(some 35), .mv (.tmp 9), none⟩),
  (1, ⟨(some 36), .bin .neq (.tmp 35) (.c (.t (.i .i64 0))), none⟩),
  (2, ⟨(some 34), .mv (.tmp 36), none⟩)]
abbrev f21r6 : Pc := .reg f21o6 [0, 8, 34] []
abbrev f21o7 : List (Nat × Pop) := [
  (0, ⟨(some 38), .fad 2 (.tmp 8), none⟩),
  (1, ⟨(some 39), .load false 1 (.tmp 38), none⟩),
  (2, ⟨(some 40), .bin .eql (.tmp 39) (.c (.t (.i .i64 0))), none⟩),
  (3, ⟨(some 37), .mv (.tmp 40), none⟩)]
abbrev f21r7 : Pc := .reg f21o7 [0, 8, 37] []
abbrev f21o8 : List (Nat × Pop) := [
  (0, ⟨(some 41), .mv (.tmp 0), none⟩),
  (1, ⟨(some 42), .load true 11 (.tmp 8), none⟩),
  (2, ⟨(some 43), .call 52 [(.tmp 41), (.tmp 42)], none⟩)]
abbrev f21r8 : Pc := .reg f21o8 [] []
abbrev f21o9 : List (Nat × Pop) := [
  (0, ⟨(some 45), .fad 2 (.tmp 8), none⟩),
  (1, ⟨(some 46), .load false 1 (.tmp 45), none⟩),
  (2, ⟨(some 47), .bin .leq (.tmp 46) (.c (.t (.i .i64 4))), none⟩),
  (3, ⟨(some 44), .mv (.tmp 47), none⟩)]
abbrev f21r9 : Pc := .reg f21o9 [0, 8, 44] []
abbrev f21o10 : List (Nat × Pop) := [
  (0, ⟨(some 49), .mv (.tmp 0), none⟩),
  (1, ⟨(some 50), .nchk (.tmp 49), none⟩),
  (2, ⟨(some 51), .fad 0 (.tmp 50), none⟩),
  (3, ⟨(some 52), .load true 2 (.tmp 51), none⟩),
  (4, ⟨(some 53), .mv (.tmp 0), none⟩),
  (5, ⟨(some 54), .nchk (.tmp 53), none⟩),
  (6, ⟨(some 55), .fad 2 (.tmp 54), none⟩),
  (7, ⟨(some 56), .load true 2 (.tmp 55), none⟩),
  (8, ⟨(some 57), .fad 2 (.tmp 8), none⟩),
  (9, ⟨(some 58), .load false 1 (.tmp 57), none⟩),
  (10, ⟨(some 59), .mv (.tmp 0), none⟩),
  (11, ⟨(some 60), .fad 2 (.tmp 8), none⟩),
  (12, ⟨(some 61), .load false 1 (.tmp 60), none⟩),
  (13, ⟨(some 62), .nchk (.tmp 59), none⟩),
  (14, ⟨(some 63), .fad 4 (.tmp 62), none⟩),
  (15, ⟨(some 64), .ixA 5 1 (.tmp 63) (.tmp 61), none⟩),
  (16, ⟨(some 65), .load false 1 (.tmp 64), none⟩),
  (17, ⟨(some 66), .load true 11 (.tmp 8), none⟩),
  (18, ⟨(some 67), .callq 53 [(.tmp 52), (.tmp 56), (.tmp 58), (.tmp 65), (.tmp 66)], none⟩),
  (19, ⟨(some 48), .mv (.tmp 67), none⟩),
  (20, ⟨(some 68), .ext 0 (.tmp 48), none⟩),
  (21, ⟨(some 69), .ext 1 (.tmp 48), none⟩),
  (22, ⟨(some 70), .ext 2 (.tmp 48), none⟩),
  (23, ⟨(some 11), .alloc 44 [(.t (.i .i64 0)), (.t (.i .i64 0)), (.t (.i .i64 0)), (.t (.i .i64 0)), (.t (.i .i64 0)), (.t (.i .i64 0)), (.t (.i .i64 0)), (.t (.i .i64 0)), (.t (.i .i64 0)), (.t (.i .i64 0)), .nl], none⟩),
  (24, ⟨(some 10), .mv (.tmp 68), none⟩),
  (25, ⟨none, .store 11 (.tmp 11) (.tmp 69), none⟩),
  (26, ⟨(some 12), .mv (.tmp 70), none⟩)]
abbrev f21r10 : Pc := .reg f21o10 [0, 8, 10, 11, 12] []
abbrev f21o11 : List (Nat × Pop) := [
  (0, ⟨(some 71), .mv (.tmp 0), none⟩),
  (1, ⟨(some 72), .fad 2 (.tmp 8), none⟩),
  (2, ⟨(some 73), .load false 1 (.tmp 72), none⟩),
  (3, ⟨(some 74), .mv (.tmp 10), none⟩),
  (4, ⟨(some 75), .nchk (.tmp 71), none⟩),
  (5, ⟨(some 76), .fad 4 (.tmp 75), none⟩),
  (6, ⟨(some 77), .ixA 5 1 (.tmp 76) (.tmp 73), none⟩),
  (7, ⟨none, .store 1 (.tmp 77) (.tmp 74), none⟩)]
abbrev f21r11 : Pc := .reg f21o11 [0, 11, 12] []
abbrev f21o12 : List (Nat × Pop) := [
  (0, ⟨(some 78), .mv (.tmp 12), none⟩)]
abbrev f21r12 : Pc := .reg f21o12 [0, 11, 78] []
abbrev f21o13 : List (Nat × Pop) := [
  (0, ⟨(some 79), .mv (.tmp 0), none⟩),
  (1, ⟨(some 80), .load true 11 (.tmp 11), none⟩),
  (2, ⟨(some 81), .call 54 [(.tmp 79), (.tmp 80)], none⟩)]
abbrev f21r13 : Pc := .reg f21o13 [] []
abbrev f21o14 : List (Nat × Pop) := [
  (0, ⟨(some 4), .mv (.c (.t (.i .i64 0))), none⟩)]
abbrev f21r14 : Pc := .reg f21o14 [4] []
abbrev f21b : Pc := (.seq f21r0 (.seq f21r1 (.seq (.seq f21r2 (.cond (.tmp 24) (.seq f21r3 .ret) .skip)) (.seq f21r4 (.seq f21r5 (.seq (.block 0 (.seq f21r6 (.cond (.tmp 34) .skip (.seq f21r7 (.cond (.tmp 37) f21r8 (.seq f21r9 (.cond (.tmp 44) (.seq f21r10 (.seq f21r11 (.seq f21r12 (.cond (.tmp 78) f21r13 .skip)))) .skip))))))) (.seq f21r14 .ret)))))))
abbrev f21 : Pfn := ⟨2, 82, [.tmp 4], f21b⟩
def f21K : Array (List Nat) := #[[0, 1], [0, 5, 6, 7], [0, 5, 6, 24], [4], [0, 5], [0, 8, 9], [0, 8, 34], [0, 8, 37], [], [0, 8, 44], [0, 8, 10, 11, 12], [0, 11, 12], [0, 11, 78], [], [4]]
def f21H : Array (List Nat) := #[[], [], [], [], [], [], [], [], [], [], [], [], [], [], []]
def f21A : Ann := ⟨fun r => f21K.getD r [], fun r => f21H.getD r [], fun r i => ([] : List (Nat × Nat)).contains (r, i)⟩
theorem f21C : compF Go.Proofs.Tryz.prog f21A 21 = some f21 := by kernel_rfl

/-- switchboard/switchboardref15.Same -/
abbrev f22o0 : List (Nat × Pop) := [
  (0, ⟨(some 4), .mv (.c (.t (.b false))), none⟩)]
abbrev f22r0 : Pc := .reg f22o0 [0, 1] []
abbrev f22o1 : List (Nat × Pop) := [
  (0, ⟨(some 6), .mv (.tmp 0), none⟩),
  (1, ⟨(some 7), .lenL (.tmp 6), none⟩),
  (2, ⟨(some 8), .mv (.tmp 1), none⟩),
  (3, ⟨(some 9), .lenL (.tmp 8), none⟩),
  (4, ⟨(some 10), .bin .neq (.tmp 7) (.tmp 9), none⟩)]
abbrev f22r1 : Pc := .reg f22o1 [0, 1, 10] []
abbrev f22o2 : List (Nat × Pop) := [
  (0, ⟨(some 4), .mv (.c (.t (.b false))), none⟩)]
abbrev f22r2 : Pc := .reg f22o2 [4] []
abbrev f22o3 : List (Nat × Pop) := [
  (0, ⟨(some 5), .mv (.c (.t (.i .i64 0))), none⟩)]
abbrev f22r3 : Pc := .reg f22o3 [0, 1, 5] []
abbrev f22o4 : List (Nat × Pop) := [
  (0, ⟨(some 11), .mv (.tmp 5), none⟩),
  (1, ⟨(some 12), .mv (.tmp 0), none⟩),
  (2, ⟨(some 13), .lenL (.tmp 12), none⟩),
  (3, ⟨(some 14), .bin .lss (.tmp 11) (.tmp 13), none⟩)]
abbrev f22r4 : Pc := .reg f22o4 [0, 1, 5, 14] []
abbrev f22o6 : List (Nat × Pop) := [
  (0, ⟨(some 17), .mv (.tmp 0), none⟩),
  (1, ⟨(some 18), .mv (.tmp 5), none⟩),
  (2, ⟨(some 19), .ixS 1 (.tmp 17) (.tmp 18), none⟩),
  (3, ⟨(some 20), .load false 1 (.tmp 19), none⟩),
  (4, ⟨(some 21), .mv (.tmp 1), none⟩),
  (5, ⟨(some 22), .mv (.tmp 5), none⟩),
  (6, ⟨(some 23), .ixS 1 (.tmp 21) (.tmp 22), none⟩),
  (7, ⟨(some 24), .load false 1 (.tmp 23), none⟩),
  (8, ⟨(some 25), .callq 55 [(.tmp 20), (.tmp 24)], none⟩),
  (9, ⟨(some 26), .un .not (.tmp 25), none⟩)]
abbrev f22r6 : Pc := .reg f22o6 [0, 1, 5, 26] []
abbrev f22o7 : List (Nat × Pop) := [
  (0, ⟨(some 4), .mv (.c (.t (.b false))), none⟩)]
abbrev f22r7 : Pc := .reg f22o7 [4] []
abbrev f22o5 : List (Nat × Pop) := [
  (0, ⟨(some 15), .mv (.tmp 5), none⟩),
  (1, ⟨(some 16), .bin .add (.tmp 15) (.c (.t (.i .i64 1))), none⟩),
  (2, ⟨(some 5), .mv (.tmp 16), none⟩)]
abbrev f22r5 : Pc := .reg f22o5 [0, 1, 5] []
def f22l0 : Pc := (.seq (.seq f22r4 (.cond (.tmp 14) .skip (.exit 0))) (.seq (.block 1 (.seq f22r6 (.cond (.tmp 26) (.seq f22r7 .ret) .skip))) f22r5))
theorem f22l0e (C : Cfg) (s : St) : evL C f22l0 s = evL C (.seq (.seq f22r4 (.cond (.tmp 14) .skip (.exit 0))) (.seq (.block 1 (.seq f22r6 (.cond (.tmp 26) (.seq f22r7 .ret) .skip))) f22r5)) s := rfl
abbrev f22o8 : List (Nat × Pop) := [
  (0, ⟨(some 4), .mv (.c (.t (.b true))), none⟩)]
abbrev f22r8 : Pc := .reg f22o8 [4] []
abbrev f22b : Pc := (.seq f22r0 (.seq (.seq f22r1 (.cond (.tmp 10) (.seq f22r2 .ret) .skip)) (.seq (.seq f22r3 (.block 0 (.loop f22l0))) (.seq f22r8 .ret))))
abbrev f22 : Pfn := ⟨2, 27, [.tmp 4], f22b⟩
def f22K : Array (List Nat) := #[[0, 1], [0, 1, 10], [4], [0, 1, 5], [0, 1, 5, 14], [0, 1, 5], [0, 1, 5, 26], [4], [4]]
def f22H : Array (List Nat) := #[[], [], [], [], [], [], [], [], []]
def f22A : Ann := ⟨fun r => f22K.getD r [], fun r => f22H.getD r [], fun r i => ([] : List (Nat × Nat)).contains (r, i)⟩
theorem f22C : compF Go.Proofs.Tryz.prog f22A 22 = some f22 := by kernel_rfl

/-- switchboard/place.Add -/
abbrev f23o0 : List (Nat × Pop) := [
  (0, ⟨(some 3), .box 27 2 (.tmp 0), none⟩),
  (1, ⟨(some 6), .alloc 27 [(.t (.i .i64 0)), .nl], none⟩),
  (2, ⟨(some 7), .mv (.c (.t (.i .i64 0))), none⟩)]
abbrev f23r0 : Pc := .reg f23o0 [1, 2, 3, 6] []
abbrev f23o1 : List (Nat × Pop) := [
  (0, ⟨(some 10), .load true 2 (.tmp 3), none⟩),
  (1, ⟨(some 11), .mv (.tmp 1), none⟩),
  (2, ⟨(some 12), .mv (.tmp 2), none⟩),
  (3, ⟨(some 13), .call 56 [(.tmp 10), (.tmp 11), (.tmp 12)], none⟩),
  (4, ⟨(some 14), .un .not (.tmp 13), none⟩),
  (5, ⟨(some 9), .mv (.tmp 14), none⟩)]
abbrev f23r1 : Pc := .reg f23o1 [1, 2, 3, 6, 9] []
abbrev f23o2 : List (Nat × Pop) := [
  (0, ⟨(some 15), .load true 2 (.tmp 3), none⟩),
  (1, ⟨none, .store 2 (.tmp 6) (.tmp 15), none⟩),
  (2, ⟨(some 7), .mv (.c (.t (.i .i64 1))), none⟩)]
abbrev f23r2 : Pc := .reg f23o2 [6, 7] [3]
abbrev f23o3 : List (Nat × Pop) := [
  (0, ⟨(some 17), .load true 2 (.tmp 3), none⟩),
  (1, ⟨(some 18), .mv (.tmp 1), none⟩),
  (2, ⟨(some 19), .mv (.tmp 2), none⟩),
  (3, ⟨(some 20), .call 57 [(.tmp 17), (.tmp 18), (.tmp 19)], none⟩),
  (4, ⟨(some 16), .mv (.tmp 20), none⟩)]
abbrev f23r3 : Pc := .reg f23o3 [1, 2, 3, 6, 16] []
abbrev f23o4 : List (Nat × Pop) := [
  (0, ⟨(some 21), .load true 2 (.tmp 3), none⟩),
  (1, ⟨none, .store 2 (.tmp 6) (.tmp 21), none⟩),
  (2, ⟨(some 7), .mv (.c (.t (.i .i64 5))), none⟩)]
abbrev f23r4 : Pc := .reg f23o4 [6, 7] [3]
abbrev f23o5 : List (Nat × Pop) := [
  (0, ⟨(some 22), .fad 1 (.tmp 3), none⟩),
  (1, ⟨(some 23), .load false 1 (.tmp 22), none⟩),
  (2, ⟨(some 24), .mv (.tmp 1), none⟩),
  (3, ⟨(some 25), .ixS 1 (.tmp 23) (.tmp 24), none⟩),
  (4, ⟨(some 26), .load false 1 (.tmp 25), none⟩),
  (5, ⟨(some 27), .call 58 [(.tmp 26)], none⟩),
  (6, ⟨(some 28), .mv (.tmp 2), none⟩),
  (7, ⟨(some 29), .bslT 1 [(.tmp 28)], none⟩),
  (8, ⟨(some 30), .app 3 1 8 (.tmp 27) (.tmp 29), none⟩),
  (9, ⟨(some 8), .mv (.tmp 30), none⟩)]
abbrev f23r5 : Pc := .reg f23o5 [1, 3, 6, 8] []
abbrev f23o6 : List (Nat × Pop) := [
  (0, ⟨(some 31), .mv (.tmp 8), none⟩),
  (1, ⟨(some 32), .call 59 [(.tmp 31)], none⟩)]
abbrev f23r6 : Pc := .reg f23o6 [1, 3, 6, 8] []
abbrev f23o7 : List (Nat × Pop) := [
  (0, ⟨(some 33), .load true 2 (.tmp 3), none⟩),
  (1, ⟨(some 34), .mv (.tmp 1), none⟩),
  (2, ⟨(some 35), .mv (.tmp 8), none⟩),
  (3, ⟨(some 36), .call 60 [(.tmp 33), (.tmp 34), (.tmp 35)], none⟩),
  (4, ⟨none, .store 2 (.tmp 6) (.tmp 36), none⟩),
  (5, ⟨(some 7), .mv (.c (.t (.i .i64 0))), none⟩)]
abbrev f23r7 : Pc := .reg f23o7 [6, 7] [3]
abbrev f23b : Pc := (.seq f23r0 (.seq (.block 0 (.seq f23r1 (.cond (.tmp 9) (.seq f23r2 .ret) (.seq f23r3 (.cond (.tmp 16) (.seq f23r4 .ret) .skip))))) (.seq f23r5 (.seq f23r6 (.seq f23r7 .ret)))))
abbrev f23 : Pfn := ⟨3, 37, [.cell 6 true 2, .tmp 7], f23b⟩
def f23K : Array (List Nat) := #[[1, 2, 3, 6], [1, 2, 3, 6, 9], [6, 7], [1, 2, 3, 6, 16], [6, 7], [1, 3, 6, 8], [1, 3, 6, 8], [6, 7]]
def f23H : Array (List Nat) := #[[], [], [3], [], [3], [], [], [3]]
def f23A : Ann := ⟨fun r => f23K.getD r [], fun r => f23H.getD r [], fun r i => ([] : List (Nat × Nat)).contains (r, i)⟩
theorem f23C : compF Go.Proofs.Tryz.prog f23A 23 = some f23 := by kernel_rfl

/-- switchboard/place.Retire -/
abbrev f24o0 : List (Nat × Pop) := [
  (0, ⟨(some 3), .box 27 2 (.tmp 0), none⟩),
  (1, ⟨(some 5), .box 3 1 (.tmp 2), none⟩),
  (2, ⟨(some 6), .alloc 27 [(.t (.i .i64 0)), .nl], none⟩),
  (3, ⟨(some 7), .mv (.c (.t (.i .i64 0))), none⟩)]
abbrev f24r0 : Pc := .reg f24o0 [1, 3, 5, 6] []
abbrev f24o1 : List (Nat × Pop) := [
  (0, ⟨(some 9), .load true 2 (.tmp 3), none⟩),
  (1, ⟨(some 10), .mv (.tmp 1), none⟩),
  (2, ⟨(some 11), .load false 1 (.tmp 5), none⟩),
  (3, ⟨(some 12), .call 56 [(.tmp 9), (.tmp 10), (.tmp 11)], none⟩),
  (4, ⟨(some 13), .un .not (.tmp 12), none⟩),
  (5, ⟨(some 8), .mv (.tmp 13), none⟩)]
abbrev f24r1 : Pc := .reg f24o1 [1, 3, 5, 6, 8] []
abbrev f24o2 : List (Nat × Pop) := [
  (0, ⟨(some 14), .load true 2 (.tmp 3), none⟩),
  (1, ⟨none, .store 2 (.tmp 6) (.tmp 14), none⟩),
  (2, ⟨(some 7), .mv (.c (.t (.i .i64 1))), none⟩)]
abbrev f24r2 : Pc := .reg f24o2 [6, 7] [3]
abbrev f24o3 : List (Nat × Pop) := [
  (0, ⟨(some 16), .load true 2 (.tmp 3), none⟩),
  (1, ⟨(some 17), .mv (.tmp 1), none⟩),
  (2, ⟨(some 18), .load false 1 (.tmp 5), none⟩),
  (3, ⟨(some 19), .call 57 [(.tmp 16), (.tmp 17), (.tmp 18)], none⟩),
  (4, ⟨(some 20), .un .not (.tmp 19), none⟩),
  (5, ⟨(some 15), .mv (.tmp 20), none⟩)]
abbrev f24r3 : Pc := .reg f24o3 [1, 3, 5, 6, 15] []
abbrev f24o4 : List (Nat × Pop) := [
  (0, ⟨(some 21), .load true 2 (.tmp 3), none⟩),
  (1, ⟨none, .store 2 (.tmp 6) (.tmp 21), none⟩),
  (2, ⟨(some 7), .mv (.c (.t (.i .i64 4))), none⟩)]
abbrev f24r4 : Pc := .reg f24o4 [6, 7] [3]
abbrev f24o5 : List (Nat × Pop) := [
  (0, ⟨(some 23), .fad 1 (.tmp 3), none⟩),
  (1, ⟨(some 24), .load false 1 (.tmp 23), none⟩),
  (2, ⟨(some 25), .mv (.tmp 1), none⟩),
  (3, ⟨(some 26), .ixS 1 (.tmp 24) (.tmp 25), none⟩),
  (4, ⟨(some 27), .load false 1 (.tmp 26), none⟩),
  (5, ⟨(some 28), .lenL (.tmp 27), none⟩),
  (6, ⟨(some 29), .bin .eql (.tmp 28) (.c (.t (.i .i64 1))), none⟩),
  (7, ⟨(some 22), .mv (.tmp 29), none⟩)]
abbrev f24r5 : Pc := .reg f24o5 [1, 3, 5, 6, 22] []
abbrev f24o6 : List (Nat × Pop) := [
  (0, ⟨(some 30), .load true 2 (.tmp 3), none⟩),
  (1, ⟨none, .store 2 (.tmp 6) (.tmp 30), none⟩),
  (2, ⟨(some 7), .mv (.c (.t (.i .i64 7))), none⟩)]
abbrev f24r6 : Pc := .reg f24o6 [6, 7] [3]
abbrev f24o7 : List (Nat × Pop) := [
  (0, ⟨(some 31), .loadB true 2 (.tmp 3), none⟩),
  (1, ⟨(some 32), .mv (.tmp 1), none⟩),
  (2, ⟨(some 33), .fad 1 (.tmp 3), none⟩),
  (3, ⟨(some 34), .load false 1 (.tmp 33), none⟩),
  (4, ⟨(some 35), .mv (.tmp 1), none⟩),
  (5, ⟨(some 36), .ixS 1 (.tmp 34) (.tmp 35), none⟩),
  (6, ⟨(some 37), .load false 1 (.tmp 36), none⟩),
  (7, ⟨(some 38), .callo 58 [(.tmp 37)], none⟩),
  (8, ⟨(some 39), .mkfn 62 [(.tmp 5)], none⟩),
  (9, ⟨(some 40), .callR 61 [(.tmp 38), (.tmp 39)], none⟩),
  (10, ⟨(some 41), .callR 60 [(.tmp 31), (.tmp 32), (.tmp 40)], none⟩),
  (11, ⟨none, .store 2 (.tmp 6) (.tmp 41), none⟩),
  (12, ⟨(some 7), .mv (.c (.t (.i .i64 0))), none⟩)]
abbrev f24r7 : Pc := .reg f24o7 [6, 7] [3]
abbrev f24b : Pc := (.seq f24r0 (.seq (.block 0 (.seq f24r1 (.cond (.tmp 8) (.seq f24r2 .ret) (.seq f24r3 (.cond (.tmp 15) (.seq f24r4 .ret) (.seq f24r5 (.cond (.tmp 22) (.seq f24r6 .ret) .skip))))))) (.seq f24r7 .ret)))
abbrev f24 : Pfn := ⟨3, 42, [.cell 6 true 2, .tmp 7], f24b⟩
def f24K : Array (List Nat) := #[[1, 3, 5, 6], [1, 3, 5, 6, 8], [6, 7], [1, 3, 5, 6, 15], [6, 7], [1, 3, 5, 6, 22], [6, 7], [6, 7]]
def f24H : Array (List Nat) := #[[], [], [3], [], [3], [], [3], [3]]
def f24A : Ann := ⟨fun r => f24K.getD r [], fun r => f24H.getD r [], fun r i => ([(7, 7), (7, 1009), (7, 1010), (7, 0)] : List (Nat × Nat)).contains (r, i)⟩
theorem f24C : compF Go.Proofs.Tryz.prog f24A 24 = some f24 := by kernel_rfl

/-- (*switchboard/fleet.Fleet).Add -/
abbrev f25o0 : List (Nat × Pop) := [
  (0, ⟨(some 6), .mv (.c (.t (.i .i64 0))), none⟩)]
abbrev f25r0 : Pc := .reg f25o0 [0, 1, 2] []
abbrev f25o1 : List (Nat × Pop) := [
  (0, ⟨(some 10), .mv (.tmp 0), none⟩),
  (1, ⟨(some 11), .nchk (.tmp 10), none⟩),
  (2, ⟨(some 12), .fad 2 (.tmp 11), none⟩),
  (3, ⟨(some 13), .load true 2 (.tmp 12), none⟩),
  (4, ⟨(some 14), .mv (.tmp 1), none⟩),
  (5, ⟨(some 15), .mv (.tmp 2), none⟩),
  (6, ⟨(some 16), .call 23 [(.tmp 13), (.tmp 14), (.tmp 15)], none⟩),
  (7, ⟨(some 9), .mv (.tmp 16), none⟩),
  (8, ⟨(some 17), .ext 0 (.tmp 9), none⟩),
  (9, ⟨(some 18), .ext 1 (.tmp 9), none⟩),
  (10, ⟨(some 7), .alloc 27 [(.t (.i .i64 0)), .nl], none⟩),
  (11, ⟨none, .store 2 (.tmp 7) (.tmp 17), none⟩),
  (12, ⟨(some 8), .mv (.tmp 18), none⟩)]
abbrev f25r1 : Pc := .reg f25o1 [0, 7, 8] []
abbrev f25o2 : List (Nat × Pop) := [
  (0, ⟨(some 19), .mv (.tmp 0), none⟩),
  (1, ⟨(some 20), .load true 2 (.tmp 7), none⟩),
  (2, ⟨(some 21), .nchk (.tmp 19), none⟩),
  (3, ⟨(some 22), .fad 2 (.tmp 21), none⟩),
  (4, ⟨none, .store 2 (.tmp 22) (.tmp 20), none⟩)]
abbrev f25r2 : Pc := .reg f25o2 [8] []
abbrev f25o3 : List (Nat × Pop) := [
  (0, ⟨(some 23), .mv (.tmp 8), none⟩),
  (1, ⟨(some 6), .mv (.tmp 23), none⟩)]
abbrev f25r3 : Pc := .reg f25o3 [6] []
abbrev f25b : Pc := (.seq f25r0 (.seq f25r1 (.seq f25r2 (.seq f25r3 .ret))))
abbrev f25 : Pfn := ⟨3, 24, [.tmp 6], f25b⟩
def f25K : Array (List Nat) := #[[0, 1, 2], [0, 7, 8], [8], [6]]
def f25H : Array (List Nat) := #[[], [], [], []]
def f25A : Ann := ⟨fun r => f25K.getD r [], fun r => f25H.getD r [], fun r i => ([] : List (Nat × Nat)).contains (r, i)⟩
theorem f25C : compF Go.Proofs.Tryz.prog f25A 25 = some f25 := by kernel_rfl

/-- (*switchboard/fleet.Fleet).Retire -/
abbrev f26o0 : List (Nat × Pop) := [
  (0, ⟨(some 6), .mv (.c (.t (.i .i64 0))), none⟩)]
abbrev f26r0 : Pc := .reg f26o0 [0, 1, 2] []
abbrev f26o1 : List (Nat × Pop) := [
  (0, ⟨(some 10), .mv (.tmp 0), none⟩),
  (1, ⟨(some 11), .nchk (.tmp 10), none⟩),
  (2, ⟨(some 12), .fad 2 (.tmp 11), none⟩),
  (3, ⟨(some 13), .load true 2 (.tmp 12), none⟩),
  (4, ⟨(some 14), .mv (.tmp 1), none⟩),
  (5, ⟨(some 15), .mv (.tmp 2), none⟩),
  (6, ⟨(some 16), .call 24 [(.tmp 13), (.tmp 14), (.tmp 15)], none⟩),
  (7, ⟨(some 9), .mv (.tmp 16), none⟩),
  (8, ⟨(some 17), .ext 0 (.tmp 9), none⟩),
  (9, ⟨(some 18), .ext 1 (.tmp 9), none⟩),
  (10, ⟨(some 7), .alloc 27 [(.t (.i .i64 0)), .nl], none⟩),
  (11, ⟨none, .store 2 (.tmp 7) (.tmp 17), none⟩),
  (12, ⟨(some 8), .mv (.tmp 18), none⟩)]
abbrev f26r1 : Pc := .reg f26o1 [0, 7, 8] []
abbrev f26o2 : List (Nat × Pop) := [
  (0, ⟨(some 19), .mv (.tmp 0), none⟩),
  (1, ⟨(some 20), .load true 2 (.tmp 7), none⟩),
  (2, ⟨(some 21), .nchk (.tmp 19), none⟩),
  (3, ⟨(some 22), .fad 2 (.tmp 21), none⟩),
  (4, ⟨none, .store 2 (.tmp 22) (.tmp 20), none⟩)]
abbrev f26r2 : Pc := .reg f26o2 [8] []
abbrev f26o3 : List (Nat × Pop) := [
  (0, ⟨(some 23), .mv (.tmp 8), none⟩),
  (1, ⟨(some 6), .mv (.tmp 23), none⟩)]
abbrev f26r3 : Pc := .reg f26o3 [6] []
abbrev f26b : Pc := (.seq f26r0 (.seq f26r1 (.seq f26r2 (.seq f26r3 .ret))))
abbrev f26 : Pfn := ⟨3, 24, [.tmp 6], f26b⟩
def f26K : Array (List Nat) := #[[0, 1, 2], [0, 7, 8], [8], [6]]
def f26H : Array (List Nat) := #[[], [], [], []]
def f26A : Ann := ⟨fun r => f26K.getD r [], fun r => f26H.getD r [], fun r i => ([] : List (Nat × Nat)).contains (r, i)⟩
theorem f26C : compF Go.Proofs.Tryz.prog f26A 26 = some f26 := by kernel_rfl

/-- switchboard/switchboardlaw19.do -/
abbrev f27o0 : List (Nat × Pop) := [
  (0, ⟨(some 3), .box 64 3 (.tmp 1), none⟩)]
abbrev f27r0 : Pc := .reg f27o0 [0, 3] []
abbrev f27o1 : List (Nat × Pop) := [
  (0, ⟨(some 6), .mv (.tmp 0), none⟩),
  (1, ⟨(some 7), .call 14 [(.tmp 6)], none⟩),
  (2, ⟨(some 8), .lenL (.tmp 7), none⟩),
  (3, ⟨(some 4), .mv (.tmp 8), none⟩)]
abbrev f27r1 : Pc := .reg f27o1 [0, 3, 4] []
abbrev f27o2 : List (Nat × Pop) := [
  (0, ⟨(some 5), .mv (.c (.t (.i .i64 0))), none⟩)]
abbrev f27r2 : Pc := .reg f27o2 [0, 3, 4, 5] []
abbrev f27o3 : List (Nat × Pop) := [
  (0, ⟨(some 9), .mv (.tmp 4), none⟩),
  (1, ⟨(some 10), .bin .gtr (.tmp 9) (.c (.t (.i .i64 0))), none⟩)]
abbrev f27r3 : Pc := .reg f27o3 [0, 3, 4, 5, 10] []
abbrev f27o4 : List (Nat × Pop) := [
  (0, ⟨(some 11), .fad 1 (.tmp 3), none⟩),
  (1, ⟨(some 12), .load false 1 (.tmp 11), none⟩),
  (2, ⟨(some 13), .cvi .i64 (.tmp 12), none⟩),
  (3, ⟨(some 14), .mv (.tmp 4), none⟩),
  (4, ⟨(some 15), .bin .rem (.tmp 13) (.tmp 14), none⟩),
  (5, ⟨(some 5), .mv (.tmp 15), none⟩)]
abbrev f27r4 : Pc := .reg f27o4 [0, 3, 5] []
abbrev f27o5 : List (Nat × Pop) := [
  (0, ⟨(some 16), .fad 0 (.tmp 3), none⟩),
  (1, ⟨(some 17), .load false 1 (.tmp 16), none⟩),
  (2, ⟨(some 18), .bin .rem (.tmp 17) (.c (.t (.i .u8 6))), none⟩)]
abbrev f27r5 : Pc := .reg f27o5 [0, 3, 5, 18] []
abbrev f27o6 : List (Nat × Pop) := [
  (0, ⟨(some 20), .bin .eql (.tmp 18) (.c (.t (.i .u8 0))), none⟩),
  (1, ⟨(some 19), .mv (.tmp 20), none⟩)]
abbrev f27r6 : Pc := .reg f27o6 [0, 3, 5, 18, 19] []
abbrev f27o7 : List (Nat × Pop) := [
  (0, ⟨(some 21), .mv (.tmp 0), none⟩),
  (1, ⟨(some 22), .call 28 [(.tmp 21)], none⟩)]
abbrev f27r7 : Pc := .reg f27o7 [] []
abbrev f27o8 : List (Nat × Pop) := [
  (0, ⟨(some 24), .bin .eql (.tmp 18) (.c (.t (.i .u8 1))), none⟩),
  (1, ⟨(some 23), .mv (.tmp 24), none⟩)]
abbrev f27r8 : Pc := .reg f27o8 [0, 3, 5, 18, 23] []
abbrev f27o9 : List (Nat × Pop) := [
  (0, ⟨(some 25), .mv (.tmp 0), none⟩),
  (1, ⟨(some 26), .mv (.tmp 5), none⟩),
  (2, ⟨(some 27), .call 21 [(.tmp 25), (.tmp 26)], none⟩)]
abbrev f27r9 : Pc := .reg f27o9 [] []
abbrev f27o10 : List (Nat × Pop) := [
  (0, ⟨(some 29), .bin .eql (.tmp 18) (.c (.t (.i .u8 2))), none⟩),
  (1, ⟨(some 28), .mv (.tmp 29), none⟩)]
abbrev f27r10 : Pc := .reg f27o10 [0, 3, 5, 18, 28] []
abbrev f27o11 : List (Nat × Pop) := [
  (0, ⟨(some 30), .mv (.tmp 0), none⟩),
  (1, ⟨(some 31), .mv (.tmp 5), none⟩),
  (2, ⟨(some 32), .call 29 [(.tmp 30), (.tmp 31)], none⟩)]
abbrev f27r11 : Pc := .reg f27o11 [] []
abbrev f27o12 : List (Nat × Pop) := [
  (0, ⟨(some 34), .bin .eql (.tmp 18) (.c (.t (.i .u8 3))), none⟩),
  (1, ⟨(some 33), .mv (.tmp 34), none⟩)]
abbrev f27r12 : Pc := .reg f27o12 [0, 3, 5, 18, 33] []
abbrev f27o13 : List (Nat × Pop) := [
  (0, ⟨(some 35), .mv (.tmp 0), none⟩),
  (1, ⟨(some 36), .mv (.tmp 5), none⟩),
  (2, ⟨(some 37), .call 63 [(.tmp 35), (.tmp 36)], none⟩)]
abbrev f27r13 : Pc := .reg f27o13 [] []
abbrev f27o14 : List (Nat × Pop) := [
  (0, ⟨(some 39), .bin .eql (.tmp 18) (.c (.t (.i .u8 4))), none⟩),
  (1, ⟨(some 38), .mv (.tmp 39), none⟩)]
abbrev f27r14 : Pc := .reg f27o14 [0, 3, 18, 38] []
abbrev f27o15 : List (Nat × Pop) := [
  (0, ⟨(some 40), .mv (.tmp 0), none⟩),
  (1, ⟨(some 41), .fad 1 (.tmp 3), none⟩),
  (2, ⟨(some 42), .load false 1 (.tmp 41), none⟩),
  (3, ⟨(some 43), .bin .rem (.tmp 42) (.c (.t (.i .u8 8))), none⟩),
  (4, ⟨(some 44), .cvi .i64 (.tmp 43), none⟩),
  (5, ⟨(some 45), .fad 2 (.tmp 3), none⟩),
  (6, ⟨(some 46), .load false 1 (.tmp 45), none⟩),
  (7, ⟨(some 47), .bin .rem (.tmp 46) (.c (.t (.i .u8 5))), none⟩),
  (8, ⟨(some 48), .cvi .i64 (.tmp 47), none⟩),
  (9, ⟨(some 49), .call 25 [(.tmp 40), (.tmp 44), (.tmp 48)], none⟩)]
abbrev f27r15 : Pc := .reg f27o15 [] []
abbrev f27o16 : List (Nat × Pop) := [
  (0, ⟨(some 51), .bin .eql (.tmp 18) (.c (.t (.i .u8 5))), none⟩),
  (1, ⟨(some 50), .mv (.tmp 51), none⟩)]
abbrev f27r16 : Pc := .reg f27o16 [0, 3, 50] []
abbrev f27o17 : List (Nat × Pop) := [
  (0, ⟨(some 52), .mv (.tmp 0), none⟩),
  (1, ⟨(some 53), .fad 1 (.tmp 3), none⟩),
  (2, ⟨(some 54), .load false 1 (.tmp 53), none⟩),
  (3, ⟨(some 55), .bin .rem (.tmp 54) (.c (.t (.i .u8 8))), none⟩),
  (4, ⟨(some 56), .cvi .i64 (.tmp 55), none⟩),
  (5, ⟨(some 57), .fad 2 (.tmp 3), none⟩),
  (6, ⟨(some 58), .load false 1 (.tmp 57), none⟩),
  (7, ⟨(some 59), .bin .rem (.tmp 58) (.c (.t (.i .u8 5))), none⟩),
  (8, ⟨(some 60), .cvi .i64 (.tmp 59), none⟩),
  (9, ⟨(some 61), .call 26 [(.tmp 52), (.tmp 56), (.tmp 60)], none⟩)]
abbrev f27r17 : Pc := .reg f27o17 [] []
abbrev f27b : Pc := (.seq f27r0 (.seq f27r1 (.seq f27r2 (.seq (.seq f27r3 (.cond (.tmp 10) f27r4 .skip)) (.seq f27r5 (.block 0 (.seq f27r6 (.cond (.tmp 19) f27r7 (.seq f27r8 (.cond (.tmp 23) f27r9 (.seq f27r10 (.cond (.tmp 28) f27r11 (.seq f27r12 (.cond (.tmp 33) f27r13 (.seq f27r14 (.cond (.tmp 38) f27r15 (.seq f27r16 (.cond (.tmp 50) f27r17 .skip))))))))))))))))))
abbrev f27 : Pfn := ⟨2, 62, [], f27b⟩
def f27K : Array (List Nat) := #[[0, 3], [0, 3, 4], [0, 3, 4, 5], [0, 3, 4, 5, 10], [0, 3, 5], [0, 3, 5, 18], [0, 3, 5, 18, 19], [], [0, 3, 5, 18, 23], [], [0, 3, 5, 18, 28], [], [0, 3, 5, 18, 33], [], [0, 3, 18, 38], [], [0, 3, 50], []]
def f27H : Array (List Nat) := #[[], [], [], [], [], [], [], [], [], [], [], [], [], [], [], [], [], []]
def f27A : Ann := ⟨fun r => f27K.getD r [], fun r => f27H.getD r [], fun r i => ([] : List (Nat × Nat)).contains (r, i)⟩
theorem f27C : compF Go.Proofs.Tryz.prog f27A 27 = some f27 := by kernel_rfl

/-- (*switchboard/fleet.Fleet).Ask -/
abbrev f28o0 : List (Nat × Pop) := [
  (0, ⟨(some 6), .mv (.tmp 0), none⟩),
  (1, ⟨(some 7), .nchk (.tmp 6), none⟩),
  (2, ⟨(some 8), .fad 11 (.tmp 7), none⟩),
  (3, ⟨(some 9), .load false 1 (.tmp 8), none⟩),
  (4, ⟨(some 10), .mv (.tmp 0), none⟩),
  (5, ⟨(some 11), .nchk (.tmp 10), none⟩),
  (6, ⟨(some 12), .fad 0 (.tmp 11), none⟩),
  (7, ⟨(some 13), .fad 1 (.tmp 12), none⟩),
  (8, ⟨(some 14), .load false 1 (.tmp 13), none⟩),
  (9, ⟨(some 15), .lenL (.tmp 14), none⟩),
  (10, ⟨(some 16), .bin .geq (.tmp 9) (.tmp 15), none⟩)]
abbrev f28r0 : Pc := .reg f28o0 [0, 16] []
abbrev f28o1 : List (Nat × Pop) := [
  (0, ⟨(some 17), .mv (.tmp 0), none⟩),
  (1, ⟨(some 18), .nchk (.tmp 17), none⟩),
  (2, ⟨(some 19), .fad 12 (.tmp 18), none⟩),
  (3, ⟨(some 20), .load false 1 (.tmp 19), none⟩),
  (4, ⟨(some 21), .lenL (.tmp 20), none⟩),
  (5, ⟨(some 22), .mv (.c (.t (.i .i64 0))), none⟩)]
abbrev f28r1 : Pc := .reg f28o1 [0, 20, 21, 22] []
abbrev f28o2 : List (Nat × Pop) := [
  (0, ⟨(some 23), .bin .lss (.tmp 22) (.tmp 21), none⟩)]
abbrev f28r2 : Pc := .reg f28o2 [0, 20, 21, 22, 23] []
abbrev f28o3 : List (Nat × Pop) := [
  (0, ⟨(some 24), .mv (.tmp 22), none⟩),
  (1, ⟨(some 25), .ixS 4 (.tmp 20) (.tmp 22), none⟩),
  (2, ⟨(some 26), .load true 4 (.tmp 25), none⟩),
  (3, ⟨(some 3), .alloc 110 [(.t (.i .i64 0)), (.t (.i .i64 0)), (.t (.i .i64 0)), (.t (.i .i64 0))], none⟩),
  (4, ⟨(some 2), .mv (.tmp 24), none⟩),
  (5, ⟨none, .store 4 (.tmp 3) (.tmp 26), none⟩)]
abbrev f28r3 : Pc := .reg f28o3 [0, 2, 3, 20, 21, 22] []
abbrev f28o4 : List (Nat × Pop) := [
  (0, ⟨(some 27), .mv (.tmp 0), none⟩),
  (1, ⟨(some 28), .nchk (.tmp 27), none⟩),
  (2, ⟨(some 29), .fad 14 (.tmp 28), none⟩),
  (3, ⟨(some 30), .load false 1 (.tmp 29), none⟩),
  (4, ⟨(some 31), .mv (.tmp 2), none⟩),
  (5, ⟨(some 32), .ixS 1 (.tmp 30) (.tmp 31), none⟩),
  (6, ⟨(some 33), .load false 1 (.tmp 32), none⟩)]
abbrev f28r4 : Pc := .reg f28o4 [0, 3, 20, 21, 22, 33] []
abbrev f28o5 : List (Nat × Pop) := [
  (0, ⟨(some 35), .mv (.tmp 0), none⟩),
  (1, ⟨(some 36), .nchk (.tmp 35), none⟩),
  (2, ⟨(some 37), .fad 2 (.tmp 36), none⟩),
  (3, ⟨(some 38), .load true 2 (.tmp 37), none⟩),
  (4, ⟨(some 39), .fad 2 (.tmp 3), none⟩),
  (5, ⟨(some 40), .load false 1 (.tmp 39), none⟩),
  (6, ⟨(some 41), .fad 0 (.tmp 3), none⟩),
  (7, ⟨(some 42), .load false 1 (.tmp 41), none⟩),
  (8, ⟨(some 43), .fad 1 (.tmp 3), none⟩),
  (9, ⟨(some 44), .load false 1 (.tmp 43), none⟩),
  (10, ⟨(some 45), .bin .add (.tmp 42) (.tmp 44), none⟩),
  (11, ⟨(some 46), .callq 64 [(.tmp 38), (.tmp 40), (.tmp 45)], none⟩),
  (12, ⟨(some 34), .mv (.tmp 46), none⟩),
  (13, ⟨(some 47), .ext 0 (.tmp 34), none⟩),
  (14, ⟨(some 48), .ext 1 (.tmp 34), none⟩),
  (15, ⟨(some 4), .mv (.tmp 47), none⟩),
  (16, ⟨(some 5), .mv (.tmp 48), none⟩)]
abbrev f28r5 : Pc := .reg f28o5 [0, 3, 4, 20, 21, 22] []
abbrev f28o6 : List (Nat × Pop) := [
  (0, ⟨(some 49), .mv (.tmp 0), none⟩),
  (1, ⟨(some 50), .mv (.tmp 4), none⟩),
  (2, ⟨(some 51), .mv (.tmp 0), none⟩),
  (3, ⟨(some 52), .nchk (.tmp 51), none⟩),
  (4, ⟨(some 53), .fad 11 (.tmp 52), none⟩),
  (5, ⟨(some 54), .load false 1 (.tmp 53), none⟩),
  (6, ⟨(some 55), .fad 0 (.tmp 3), none⟩),
  (7, ⟨(some 56), .load false 1 (.tmp 55), none⟩),
  (8, ⟨(some 57), .fad 1 (.tmp 3), none⟩),
  (9, ⟨(some 58), .load false 1 (.tmp 57), none⟩),
  (10, ⟨(some 59), .fad 2 (.tmp 3), none⟩),
  (11, ⟨(some 60), .load false 1 (.tmp 59), none⟩),
  (12, ⟨(some 61), .mv (.tmp 0), none⟩),
  (13, ⟨(some 62), .nchk (.tmp 61), none⟩),
  (14, ⟨(some 63), .fad 2 (.tmp 62), none⟩),
  (15, ⟨(some 64), .fad 0 (.tmp 63), none⟩),
  (16, ⟨(some 65), .load false 1 (.tmp 64), none⟩),
  (17, ⟨(some 66), .mv (.tmp 0), none⟩),
  (18, ⟨(some 67), .nchk (.tmp 66), none⟩),
  (19, ⟨(some 68), .fad 10 (.tmp 67), none⟩),
  (20, ⟨(some 69), .load false 1 (.tmp 68), none⟩),
  (21, ⟨(some 70), .fad 0 (.tmp 3), none⟩),
  (22, ⟨(some 71), .load false 1 (.tmp 70), none⟩),
  (23, ⟨(some 72), .ixS 1 (.tmp 69) (.tmp 71), none⟩),
  (24, ⟨(some 73), .load false 1 (.tmp 72), none⟩),
  (25, ⟨(some 74), .build [(.t (.i .i64 0)), (.t (.i .i64 0)), (.t (.i .i64 0)), (.t (.i .i64 0)), (.t (.i .i64 0)), (.t (.i .i64 0)), (.t (.i .i64 0)), (.t (.i .i64 0)), (.t (.i .i64 0)), (.t (.i .i64 0)), .nl] [(0, 1, (.c (.t (.i .i64 1)))), (2, 1, (.tmp 50)), (4, 1, (.c (.t (.i .i64 1)))), (5, 1, (.tmp 54)), (6, 1, (.tmp 56)), (7, 1, (.tmp 58)), (8, 1, (.tmp 60)), (9, 1, (.tmp 65)), (10, 1, (.tmp 73))], none⟩),
  (26, ⟨(some 75), .call 54 [(.tmp 49), (.tmp 74)], none⟩)]
abbrev f28r6 : Pc := .reg f28o6 [0, 20, 21, 22] []
abbrev f28o7 : List (Nat × Pop) := [
  (0, ⟨(some 76), .bin .add (.tmp 22) (.c (.t (.i .i64 1))), none⟩),
  (1, ⟨(some 22), .mv (.tmp 76), none⟩)]
abbrev f28r7 : Pc := .reg f28o7 [0, 20, 21, 22] []
def f28l0 : Pc := (.seq f28r2 (.seq (.cond (.tmp 23) .skip (.exit 0)) (.seq (.block 1 (.seq f28r3 (.seq (.seq f28r4 (.cond (.tmp 33) (.exit 1) .skip)) (.seq f28r5 f28r6)))) f28r7)))
theorem f28l0e (C : Cfg) (s : St) : evL C f28l0 s = evL C (.seq f28r2 (.seq (.cond (.tmp 23) .skip (.exit 0)) (.seq (.block 1 (.seq f28r3 (.seq (.seq f28r4 (.cond (.tmp 33) (.exit 1) .skip)) (.seq f28r5 f28r6)))) f28r7))) s := rfl
abbrev f28b : Pc := (.seq (.seq f28r0 (.cond (.tmp 16) .ret .skip)) (.seq f28r1 (.block 0 (.loop f28l0))))
abbrev f28 : Pfn := ⟨1, 77, [], f28b⟩
def f28K : Array (List Nat) := #[[0, 16], [0, 20, 21, 22], [0, 20, 21, 22, 23], [0, 2, 3, 20, 21, 22], [0, 3, 20, 21, 22, 33], [0, 3, 4, 20, 21, 22], [0, 20, 21, 22], [0, 20, 21, 22]]
def f28H : Array (List Nat) := #[[], [], [], [], [], [], [], []]
def f28A : Ann := ⟨fun r => f28K.getD r [], fun r => f28H.getD r [], fun r i => ([(6, 2026)] : List (Nat × Nat)).contains (r, i)⟩
theorem f28C : compF Go.Proofs.Tryz.prog f28A 28 = some f28 := by kernel_rfl

/-- (*switchboard/fleet.Fleet).Drop -/
abbrev f29o0 : List (Nat × Pop) := [
  (0, ⟨(some 4), .mv (.c (.t (.i .i64 0))), none⟩)]
abbrev f29r0 : Pc := .reg f29o0 [0, 1] []
abbrev f29o1 : List (Nat × Pop) := [
  (0, ⟨(some 9), .mv (.tmp 0), none⟩),
  (1, ⟨(some 10), .nchk (.tmp 9), none⟩),
  (2, ⟨(some 11), .fad 9 (.tmp 10), none⟩),
  (3, ⟨(some 12), .load false 1 (.tmp 11), none⟩),
  (4, ⟨(some 13), .mv (.tmp 1), none⟩),
  (5, ⟨(some 14), .call 50 [(.tmp 12), (.tmp 13)], none⟩),
  (6, ⟨(some 8), .mv (.tmp 14), none⟩),
  (7, ⟨(some 15), .ext 0 (.tmp 8), none⟩),
  (8, ⟨(some 16), .ext 1 (.tmp 8), none⟩),
  (9, ⟨(some 17), .ext 2 (.tmp 8), none⟩),
  (10, ⟨(some 5), .mv (.tmp 15), none⟩),
  (11, ⟨(some 6), .mv (.tmp 16), none⟩),
  (12, ⟨(some 7), .mv (.tmp 17), none⟩)]
abbrev f29r1 : Pc := .reg f29o1 [0, 6, 7] []
abbrev f29o2 : List (Nat × Pop) := [
  (0, ⟨(some 18), .mv (.tmp 0), none⟩),
  (1, ⟨(some 19), .mv (.tmp 6), none⟩),
  (2, ⟨(some 20), .nchk (.tmp 18), none⟩),
  (3, ⟨(some 21), .fad 9 (.tmp 20), none⟩),
  (4, ⟨none, .store 1 (.tmp 21) (.tmp 19), none⟩)]
abbrev f29r2 : Pc := .reg f29o2 [7] []
abbrev f29o3 : List (Nat × Pop) := [
  (0, ⟨(some 22), .mv (.tmp 7), none⟩),
  (1, ⟨(some 23), .un .not (.tmp 22), none⟩)]
abbrev f29r3 : Pc := .reg f29o3 [23] []
abbrev f29o4 : List (Nat × Pop) := [
  (0, ⟨(some 4), .mv (.c (.t (.i .i64 4))), none⟩)]
abbrev f29r4 : Pc := .reg f29o4 [4] []
abbrev f29o5 : List (Nat × Pop) := [
  (0, ⟨(some 4), .mv (.c (.t (.i .i64 0))), none⟩)]
abbrev f29r5 : Pc := .reg f29o5 [4] []
abbrev f29b : Pc := (.seq f29r0 (.seq f29r1 (.seq f29r2 (.seq (.seq f29r3 (.cond (.tmp 23) (.seq f29r4 .ret) .skip)) (.seq f29r5 .ret)))))
abbrev f29 : Pfn := ⟨2, 24, [.tmp 4], f29b⟩
def f29K : Array (List Nat) := #[[0, 1], [0, 6, 7], [7], [23], [4], [4]]
def f29H : Array (List Nat) := #[[], [], [], [], [], []]
def f29A : Ann := ⟨fun r => f29K.getD r [], fun r => f29H.getD r [], fun r i => ([] : List (Nat × Nat)).contains (r, i)⟩
theorem f29C : compF Go.Proofs.Tryz.prog f29A 29 = some f29 := by kernel_rfl

/-- switchboard/model.Right -/
abbrev f30o0 : List (Nat × Pop) := [
  (0, ⟨(some 1), .box 24 2 (.tmp 0), none⟩),
  (1, ⟨(some 2), .mv (.c (.t (.b false))), none⟩)]
abbrev f30r0 : Pc := .reg f30o0 [1] []
abbrev f30o1 : List (Nat × Pop) := [
  (0, ⟨(some 3), .fad 0 (.tmp 1), none⟩),
  (1, ⟨(some 4), .load false 1 (.tmp 3), none⟩),
  (2, ⟨(some 5), .bin .geq (.tmp 4) (.c (.t (.i .i64 1))), none⟩),
  (3, ⟨(some 6), .mv (.tmp 5), none⟩),
  (4, ⟨(some 7), .fad 0 (.tmp 1), (some (6, true))⟩),
  (5, ⟨(some 8), .load false 1 (.tmp 7), (some (6, true))⟩),
  (6, ⟨(some 9), .bin .leq (.tmp 8) (.c (.t (.i .i64 8))), (some (6, true))⟩),
  (7, ⟨(some 10), .pick (.tmp 6) (.tmp 9) (.c (.t (.b false))), none⟩),
  (8, ⟨(some 11), .mv (.tmp 10), none⟩),
  (9, ⟨(some 12), .fad 1 (.tmp 1), (some (11, true))⟩),
  (10, ⟨(some 13), .load false 1 (.tmp 12), (some (11, true))⟩),
  (11, ⟨(some 14), .lenL (.tmp 13), (some (11, true))⟩),
  (12, ⟨(some 15), .bin .geq (.tmp 14) (.c (.t (.i .i64 1))), (some (11, true))⟩),
  (13, ⟨(some 16), .pick (.tmp 11) (.tmp 15) (.c (.t (.b false))), none⟩),
  (14, ⟨(some 17), .mv (.tmp 16), none⟩),
  (15, ⟨(some 18), .fad 1 (.tmp 1), (some (17, true))⟩),
  (16, ⟨(some 19), .load false 1 (.tmp 18), (some (17, true))⟩),
  (17, ⟨(some 20), .lenL (.tmp 19), (some (17, true))⟩),
  (18, ⟨(some 21), .bin .leq (.tmp 20) (.c (.t (.i .i64 4))), (some (17, true))⟩),
  (19, ⟨(some 22), .pick (.tmp 17) (.tmp 21) (.c (.t (.b false))), none⟩),
  (20, ⟨(some 23), .mv (.tmp 22), none⟩),
  (21, ⟨(some 24), .fad 1 (.tmp 1), (some (23, true))⟩),
  (22, ⟨(some 25), .load false 1 (.tmp 24), (some (23, true))⟩),
  (23, ⟨(some 26), .mkfn 65 [(.tmp 1)], (some (23, true))⟩),
  (24, ⟨(some 27), .call 33 [(.tmp 25), (.tmp 26)], (some (23, true))⟩),
  (25, ⟨(some 28), .un .not (.tmp 27), (some (23, true))⟩),
  (26, ⟨(some 29), .pick (.tmp 23) (.tmp 28) (.c (.t (.b false))), none⟩),
  (27, ⟨(some 2), .mv (.tmp 29), none⟩)]
abbrev f30r1 : Pc := .reg f30o1 [2] [1]
abbrev f30b : Pc := (.seq f30r0 (.seq f30r1 .ret))
abbrev f30 : Pfn := ⟨1, 30, [.tmp 2], f30b⟩
def f30K : Array (List Nat) := #[[1], [2]]
def f30H : Array (List Nat) := #[[], [1]]
def f30A : Ann := ⟨fun r => f30K.getD r [], fun r => f30H.getD r [], fun r i => ([] : List (Nat × Nat)).contains (r, i)⟩
theorem f30C : compF Go.Proofs.Tryz.prog f30A 30 = some f30 := by kernel_rfl

/-- switchboard/model.Tokens -/
abbrev f31o0 : List (Nat × Pop) := [
  (0, ⟨(some 2), .box 24 2 (.tmp 0), none⟩),
  (1, ⟨(some 4), .mv (.c (.t (.b false))), none⟩)]
abbrev f31r0 : Pc := .reg f31o0 [1, 2] []
abbrev f31o1 : List (Nat × Pop) := [
  (0, ⟨(some 5), .mv (.tmp 1), none⟩),
  (1, ⟨(some 6), .lenL (.tmp 5), none⟩),
  (2, ⟨(some 7), .bin .geq (.tmp 6) (.c (.t (.i .i64 1))), none⟩),
  (3, ⟨(some 8), .mv (.tmp 7), none⟩),
  (4, ⟨(some 9), .mv (.tmp 1), (some (8, true))⟩),
  (5, ⟨(some 10), .lenL (.tmp 9), (some (8, true))⟩),
  (6, ⟨(some 11), .bin .leq (.tmp 10) (.c (.t (.i .i64 16))), (some (8, true))⟩),
  (7, ⟨(some 12), .pick (.tmp 8) (.tmp 11) (.c (.t (.b false))), none⟩),
  (8, ⟨(some 13), .mv (.tmp 12), none⟩),
  (9, ⟨(some 14), .mv (.tmp 1), (some (13, true))⟩),
  (10, ⟨(some 15), .mkfn 68 [(.tmp 2)], (some (13, true))⟩),
  (11, ⟨(some 16), .call 67 [(.tmp 14), (.tmp 15)], (some (13, true))⟩),
  (12, ⟨(some 17), .un .not (.tmp 16), (some (13, true))⟩),
  (13, ⟨(some 18), .pick (.tmp 13) (.tmp 17) (.c (.t (.b false))), none⟩),
  (14, ⟨(some 4), .mv (.tmp 18), none⟩)]
abbrev f31r1 : Pc := .reg f31o1 [4] [2]
abbrev f31b : Pc := (.seq f31r0 (.seq f31r1 .ret))
abbrev f31 : Pfn := ⟨2, 19, [.tmp 4], f31b⟩
def f31K : Array (List Nat) := #[[1, 2], [4]]
def f31H : Array (List Nat) := #[[], [2]]
def f31A : Ann := ⟨fun r => f31K.getD r [], fun r => f31H.getD r [], fun r i => ([] : List (Nat × Nat)).contains (r, i)⟩
theorem f31C : compF Go.Proofs.Tryz.prog f31A 31 = some f31 := by kernel_rfl

/-- switchboard/place.Right -/
abbrev f32o0 : List (Nat × Pop) := [
  (0, ⟨(some 1), .box 27 2 (.tmp 0), none⟩),
  (1, ⟨(some 2), .mv (.c (.t (.b false))), none⟩)]
abbrev f32r0 : Pc := .reg f32o0 [1] []
abbrev f32o1 : List (Nat × Pop) := [
  (0, ⟨(some 8), .fad 1 (.tmp 1), none⟩),
  (1, ⟨(some 9), .load false 1 (.tmp 8), none⟩),
  (2, ⟨(some 10), .lenL (.tmp 9), none⟩),
  (3, ⟨(some 11), .mv (.c (.t (.i .i64 0))), none⟩)]
abbrev f32r1 : Pc := .reg f32o1 [1, 9, 10, 11] []
abbrev f32o2 : List (Nat × Pop) := [
  (0, ⟨(some 12), .bin .lss (.tmp 11) (.tmp 10), none⟩)]
abbrev f32r2 : Pc := .reg f32o2 [1, 9, 10, 11, 12] []
abbrev f32o3 : List (Nat × Pop) := [
  (0, ⟨(some 13), .ixS 1 (.tmp 9) (.tmp 11), none⟩),
  (1, ⟨(some 14), .load false 1 (.tmp 13), none⟩),
  (2, ⟨(some 4), .mv (.tmp 14), none⟩)]
abbrev f32r3 : Pc := .reg f32o3 [1, 4, 9, 10, 11] []
abbrev f32o4 : List (Nat × Pop) := [
  (0, ⟨(some 5), .mv (.c (.t (.i .i64 0))), none⟩)]
abbrev f32r4 : Pc := .reg f32o4 [1, 4, 5, 9, 10, 11] []
abbrev f32o5 : List (Nat × Pop) := [
  (0, ⟨(some 15), .mv (.tmp 4), none⟩),
  (1, ⟨(some 16), .lenL (.tmp 15), none⟩),
  (2, ⟨(some 17), .mv (.c (.t (.i .i64 0))), none⟩)]
abbrev f32r5 : Pc := .reg f32o5 [1, 4, 5, 9, 10, 11, 15, 16, 17] []
abbrev f32o6 : List (Nat × Pop) := [
  (0, ⟨(some 18), .bin .lss (.tmp 17) (.tmp 16), none⟩)]
abbrev f32r6 : Pc := .reg f32o6 [1, 4, 5, 9, 10, 11, 15, 16, 17, 18] []
abbrev f32o7 : List (Nat × Pop) := [
  (0, ⟨(some 19), .ixS 1 (.tmp 15) (.tmp 17), none⟩),
  (1, ⟨(some 20), .load false 1 (.tmp 19), none⟩),
  (2, ⟨(some 7), .mv (.tmp 20), none⟩)]
abbrev f32r7 : Pc := .reg f32o7 [1, 4, 5, 7, 9, 10, 11, 15, 16, 17] []
abbrev f32o8 : List (Nat × Pop) := [
  (0, ⟨(some 21), .mv (.tmp 7), none⟩),
  (1, ⟨(some 22), .mv (.tmp 5), none⟩),
  (2, ⟨(some 23), .bin .leq (.tmp 21) (.tmp 22), none⟩),
  (3, ⟨(some 24), .mv (.tmp 23), none⟩),
  (4, ⟨(some 25), .mv (.tmp 7), (some (24, false))⟩),
  (5, ⟨(some 26), .bin .gtr (.tmp 25) (.c (.t (.i .i64 4))), (some (24, false))⟩),
  (6, ⟨(some 27), .pick (.tmp 24) (.c (.t (.b true))) (.tmp 26), none⟩)]
abbrev f32r8 : Pc := .reg f32o8 [1, 4, 7, 9, 10, 11, 15, 16, 17, 27] []
abbrev f32o9 : List (Nat × Pop) := [
  (0, ⟨(some 2), .mv (.c (.t (.b false))), none⟩)]
abbrev f32r9 : Pc := .reg f32o9 [2] [1]
abbrev f32o10 : List (Nat × Pop) := [
  (0, ⟨(some 28), .mv (.tmp 7), none⟩),
  (1, ⟨(some 5), .mv (.tmp 28), none⟩)]
abbrev f32r10 : Pc := .reg f32o10 [1, 4, 5, 9, 10, 11, 15, 16, 17] []
abbrev f32o11 : List (Nat × Pop) := [
  (0, ⟨(some 29), .bin .add (.tmp 17) (.c (.t (.i .i64 1))), none⟩),
  (1, ⟨(some 17), .mv (.tmp 29), none⟩)]
abbrev f32r11 : Pc := .reg f32o11 [1, 4, 5, 9, 10, 11, 15, 16, 17] []
def f32l0 : Pc := (.seq f32r6 (.seq (.cond (.tmp 18) .skip (.exit 2)) (.seq (.block 3 (.seq f32r7 (.seq (.seq f32r8 (.cond (.tmp 27) (.seq f32r9 .ret) .skip)) f32r10))) f32r11)))
theorem f32l0e (C : Cfg) (s : St) : evL C f32l0 s = evL C (.seq f32r6 (.seq (.cond (.tmp 18) .skip (.exit 2)) (.seq (.block 3 (.seq f32r7 (.seq (.seq f32r8 (.cond (.tmp 27) (.seq f32r9 .ret) .skip)) f32r10))) f32r11))) s := rfl
abbrev f32o12 : List (Nat × Pop) := [
  (0, ⟨(some 30), .mv (.tmp 4), none⟩),
  (1, ⟨(some 31), .lenL (.tmp 30), none⟩),
  (2, ⟨(some 32), .bin .eql (.tmp 31) (.c (.t (.i .i64 0))), none⟩)]
abbrev f32r12 : Pc := .reg f32o12 [1, 9, 10, 11, 32] []
abbrev f32o13 : List (Nat × Pop) := [
  (0, ⟨(some 2), .mv (.c (.t (.b false))), none⟩)]
abbrev f32r13 : Pc := .reg f32o13 [2] [1]
abbrev f32o14 : List (Nat × Pop) := [
  (0, ⟨(some 33), .bin .add (.tmp 11) (.c (.t (.i .i64 1))), none⟩),
  (1, ⟨(some 11), .mv (.tmp 33), none⟩)]
abbrev f32r14 : Pc := .reg f32o14 [1, 9, 10, 11] []
def f32l1 : Pc := (.seq f32r2 (.seq (.cond (.tmp 12) .skip (.exit 0)) (.seq (.block 1 (.seq f32r3 (.seq f32r4 (.seq (.seq f32r5 (.block 2 (.loop f32l0))) (.seq f32r12 (.cond (.tmp 32) (.seq f32r13 .ret) .skip)))))) f32r14)))
theorem f32l1e (C : Cfg) (s : St) : evL C f32l1 s = evL C (.seq f32r2 (.seq (.cond (.tmp 12) .skip (.exit 0)) (.seq (.block 1 (.seq f32r3 (.seq f32r4 (.seq (.seq f32r5 (.block 2 (.loop f32l0))) (.seq f32r12 (.cond (.tmp 32) (.seq f32r13 .ret) .skip)))))) f32r14))) s := rfl
abbrev f32o15 : List (Nat × Pop) := [
  (0, ⟨(some 34), .fad 0 (.tmp 1), none⟩),
  (1, ⟨(some 35), .load false 1 (.tmp 34), none⟩),
  (2, ⟨(some 36), .bin .geq (.tmp 35) (.c (.t (.i .i64 0))), none⟩),
  (3, ⟨(some 37), .mv (.tmp 36), none⟩),
  (4, ⟨(some 38), .fad 0 (.tmp 1), (some (37, true))⟩),
  (5, ⟨(some 39), .load false 1 (.tmp 38), (some (37, true))⟩),
  (6, ⟨(some 40), .bin .leq (.tmp 39) (.c (.t (.i .i64 2147483647))), (some (37, true))⟩),
  (7, ⟨(some 41), .pick (.tmp 37) (.tmp 40) (.c (.t (.b false))), none⟩),
  (8, ⟨(some 42), .mv (.tmp 41), none⟩),
  (9, ⟨(some 43), .fad 1 (.tmp 1), (some (42, true))⟩),
  (10, ⟨(some 44), .load false 1 (.tmp 43), (some (42, true))⟩),
  (11, ⟨(some 45), .lenL (.tmp 44), (some (42, true))⟩),
  (12, ⟨(some 46), .bin .leq (.tmp 45) (.c (.t (.i .i64 8))), (some (42, true))⟩),
  (13, ⟨(some 47), .pick (.tmp 42) (.tmp 46) (.c (.t (.b false))), none⟩),
  (14, ⟨(some 2), .mv (.tmp 47), none⟩)]
abbrev f32r15 : Pc := .reg f32o15 [2] [1]
abbrev f32b : Pc := (.seq f32r0 (.seq (.seq f32r1 (.block 0 (.loop f32l1))) (.seq f32r15 .ret)))
abbrev f32 : Pfn := ⟨1, 48, [.tmp 2], f32b⟩
def f32K : Array (List Nat) := #[[1], [1, 9, 10, 11], [1, 9, 10, 11, 12], [1, 4, 9, 10, 11], [1, 4, 5, 9, 10, 11], [1, 4, 5, 9, 10, 11, 15, 16, 17], [1, 4, 5, 9, 10, 11, 15, 16, 17, 18], [1, 4, 5, 7, 9, 10, 11, 15, 16, 17], [1, 4, 7, 9, 10, 11, 15, 16, 17, 27], [2], [1, 4, 5, 9, 10, 11, 15, 16, 17], [1, 4, 5, 9, 10, 11, 15, 16, 17], [1, 9, 10, 11, 32], [2], [1, 9, 10, 11], [2]]
def f32H : Array (List Nat) := #[[], [], [], [], [], [], [], [], [], [1], [], [], [], [1], [], [1]]
def f32A : Ann := ⟨fun r => f32K.getD r [], fun r => f32H.getD r [], fun r i => ([] : List (Nat × Nat)).contains (r, i)⟩
theorem f32C : compF Go.Proofs.Tryz.prog f32A 32 = some f32 := by kernel_rfl

/-- slices.ContainsFunc[[]switchboard/api.Layer,switchboard/api.Layer] -/
abbrev f33o0 : List (Nat × Pop) := [
  (0, ⟨(some 4), .mv (.c (.t (.b false))), none⟩)]
abbrev f33r0 : Pc := .reg f33o0 [0, 1] []
abbrev f33o1 : List (Nat × Pop) := [
  (0, ⟨(some 5), .mv (.tmp 0), none⟩),
  (1, ⟨(some 6), .mv (.tmp 1), none⟩),
  (2, ⟨(some 7), .call 72 [(.tmp 5), (.tmp 6)], none⟩),
  (3, ⟨(some 8), .bin .geq (.tmp 7) (.c (.t (.i .i64 0))), none⟩),
  (4, ⟨(some 4), .mv (.tmp 8), none⟩)]
abbrev f33r1 : Pc := .reg f33o1 [4] []
abbrev f33b : Pc := (.seq f33r0 (.seq f33r1 .ret))
abbrev f33 : Pfn := ⟨2, 9, [.tmp 4], f33b⟩
def f33K : Array (List Nat) := #[[0, 1], [4]]
def f33H : Array (List Nat) := #[[], []]
def f33A : Ann := ⟨fun r => f33K.getD r [], fun r => f33H.getD r [], fun r i => ([] : List (Nat × Nat)).contains (r, i)⟩
theorem f33C : compF Go.Proofs.Tryz.prog f33A 33 = some f33 := by kernel_rfl

/-- switchboard/fleet.New$1 -/
abbrev f34o0 : List (Nat × Pop) := [
  (0, ⟨(some 2), .box 53 3 (.tmp 0), none⟩),
  (1, ⟨(some 3), .mv (.c (.t (.b false))), none⟩)]
abbrev f34r0 : Pc := .reg f34o0 [1, 2] []
abbrev f34o1 : List (Nat × Pop) := [
  (0, ⟨(some 4), .fad 1 (.tmp 2), none⟩),
  (1, ⟨(some 5), .load false 1 (.tmp 4), none⟩),
  (2, ⟨(some 6), .lenL (.tmp 5), none⟩),
  (3, ⟨(some 7), .fad 1 (.tmp 1), none⟩),
  (4, ⟨(some 8), .load false 1 (.tmp 7), none⟩),
  (5, ⟨(some 9), .lenL (.tmp 8), none⟩),
  (6, ⟨(some 10), .bin .gtr (.tmp 6) (.tmp 9), none⟩),
  (7, ⟨(some 3), .mv (.tmp 10), none⟩)]
abbrev f34r1 : Pc := .reg f34o1 [3] [2]
abbrev f34b : Pc := (.seq f34r0 (.seq f34r1 .ret))
abbrev f34 : Pfn := ⟨2, 11, [.tmp 3], f34b⟩
def f34K : Array (List Nat) := #[[1, 2], [3]]
def f34H : Array (List Nat) := #[[], [2]]
def f34A : Ann := ⟨fun r => f34K.getD r [], fun r => f34H.getD r [], fun r i => ([] : List (Nat × Nat)).contains (r, i)⟩
theorem f34C : compF Go.Proofs.Tryz.prog f34A 34 = some f34 := by kernel_rfl

/-- slices.Clone[[][]int,[]int] -/
abbrev f35o0 : List (Nat × Pop) := [
  (0, ⟨(some 2), .nilv 42 1, none⟩)]
abbrev f35r0 : Pc := .reg f35o0 [0] [2, 5, 7]
abbrev f35o1 : List (Nat × Pop) := [
  (0, ⟨(some 3), .mv (.tmp 0), none⟩),
  (1, ⟨(some 4), .isnilS false (.tmp 3), none⟩)]
abbrev f35r1 : Pc := .reg f35o1 [0, 4] []
abbrev f35o2 : List (Nat × Pop) := [
  (0, ⟨(some 2), .nilv 42 1, none⟩)]
abbrev f35r2 : Pc := .reg f35o2 [2] []
abbrev f35o3 : List (Nat × Pop) := [
  (0, ⟨(some 5), .bslO 42 1 [], none⟩),
  (1, ⟨(some 6), .mv (.tmp 0), none⟩),
  (2, ⟨(some 7), .app 42 1 24 (.tmp 5) (.tmp 6), none⟩),
  (3, ⟨(some 2), .mv (.tmp 7), none⟩)]
abbrev f35r3 : Pc := .reg f35o3 [2] []
abbrev f35b : Pc := (.seq f35r0 (.seq (.seq f35r1 (.cond (.tmp 4) (.seq f35r2 .ret) .skip)) (.seq f35r3 .ret)))
abbrev f35 : Pfn := ⟨1, 8, [.tmp 2], f35b⟩
def f35K : Array (List Nat) := #[[0], [0, 4], [2], [2]]
def f35H : Array (List Nat) := #[[2, 5, 7], [], [], []]
def f35A : Ann := ⟨fun r => f35K.getD r [], fun r => f35H.getD r [], fun r i => ([(3, 0), (3, 0)] : List (Nat × Nat)).contains (r, i)⟩
theorem f35C : compF Go.Proofs.Tryz.prog f35A 35 = some f35 := by kernel_rfl

/-- (*switchboard/fleet.Fleet).begin -/
abbrev f36o0 : List (Nat × Pop) := [
  (0, ⟨(some 2), .mv (.tmp 0), none⟩),
  (1, ⟨(some 3), .nchk (.tmp 2), none⟩),
  (2, ⟨(some 4), .fad 11 (.tmp 3), none⟩),
  (3, ⟨(some 5), .load false 1 (.tmp 4), none⟩),
  (4, ⟨(some 6), .mv (.tmp 0), none⟩),
  (5, ⟨(some 7), .nchk (.tmp 6), none⟩),
  (6, ⟨(some 8), .fad 0 (.tmp 7), none⟩),
  (7, ⟨(some 9), .fad 1 (.tmp 8), none⟩),
  (8, ⟨(some 10), .load false 1 (.tmp 9), none⟩),
  (9, ⟨(some 11), .lenL (.tmp 10), none⟩),
  (10, ⟨(some 12), .bin .geq (.tmp 5) (.tmp 11), none⟩)]
abbrev f36r0 : Pc := .reg f36o0 [0, 12] []
abbrev f36o1 : List (Nat × Pop) := [
  (0, ⟨(some 13), .mv (.tmp 0), none⟩),
  (1, ⟨(some 14), .mv (.tmp 0), none⟩),
  (2, ⟨(some 15), .nchk (.tmp 14), none⟩),
  (3, ⟨(some 16), .fad 0 (.tmp 15), none⟩),
  (4, ⟨(some 17), .fad 1 (.tmp 16), none⟩),
  (5, ⟨(some 18), .load false 1 (.tmp 17), none⟩),
  (6, ⟨(some 19), .mv (.tmp 0), none⟩),
  (7, ⟨(some 20), .nchk (.tmp 19), none⟩),
  (8, ⟨(some 21), .fad 11 (.tmp 20), none⟩),
  (9, ⟨(some 22), .load false 1 (.tmp 21), none⟩),
  (10, ⟨(some 23), .ixS 3 (.tmp 18) (.tmp 22), none⟩),
  (11, ⟨(some 24), .load true 3 (.tmp 23), none⟩),
  (12, ⟨(some 25), .mv (.tmp 0), none⟩),
  (13, ⟨(some 26), .nchk (.tmp 25), none⟩),
  (14, ⟨(some 27), .fad 10 (.tmp 26), none⟩),
  (15, ⟨(some 28), .load false 1 (.tmp 27), none⟩),
  (16, ⟨(some 29), .callq 73 [(.tmp 24), (.tmp 28)], none⟩),
  (17, ⟨(some 30), .nchk (.tmp 13), none⟩),
  (18, ⟨(some 31), .fad 12 (.tmp 30), none⟩),
  (19, ⟨none, .store 1 (.tmp 31) (.tmp 29), none⟩)]
abbrev f36r1 : Pc := .reg f36o1 [0] []
abbrev f36o2 : List (Nat × Pop) := [
  (0, ⟨(some 32), .mv (.tmp 0), none⟩),
  (1, ⟨(some 33), .mv (.tmp 0), none⟩),
  (2, ⟨(some 34), .nchk (.tmp 33), none⟩),
  (3, ⟨(some 35), .fad 12 (.tmp 34), none⟩),
  (4, ⟨(some 36), .load false 1 (.tmp 35), none⟩),
  (5, ⟨(some 37), .lenL (.tmp 36), none⟩),
  (6, ⟨(some 38), .mks 42 1 24 [(.l [])] (.tmp 37) (.tmp 37), none⟩),
  (7, ⟨(some 39), .nchk (.tmp 32), none⟩),
  (8, ⟨(some 40), .fad 13 (.tmp 39), none⟩),
  (9, ⟨none, .store 1 (.tmp 40) (.tmp 38), none⟩)]
abbrev f36r2 : Pc := .reg f36o2 [0] []
abbrev f36o3 : List (Nat × Pop) := [
  (0, ⟨(some 41), .mv (.tmp 0), none⟩),
  (1, ⟨(some 42), .mv (.tmp 0), none⟩),
  (2, ⟨(some 43), .nchk (.tmp 42), none⟩),
  (3, ⟨(some 44), .fad 12 (.tmp 43), none⟩),
  (4, ⟨(some 45), .load false 1 (.tmp 44), none⟩),
  (5, ⟨(some 46), .lenL (.tmp 45), none⟩),
  (6, ⟨(some 47), .mks 4 1 1 [(.b false)] (.tmp 46) (.tmp 46), none⟩),
  (7, ⟨(some 48), .nchk (.tmp 41), none⟩),
  (8, ⟨(some 49), .fad 14 (.tmp 48), none⟩),
  (9, ⟨none, .store 1 (.tmp 49) (.tmp 47), none⟩)]
abbrev f36r3 : Pc := .reg f36o3 [0] []
abbrev f36o4 : List (Nat × Pop) := [
  (0, ⟨(some 50), .mv (.tmp 0), none⟩),
  (1, ⟨(some 51), .call 28 [(.tmp 50)], none⟩)]
abbrev f36r4 : Pc := .reg f36o4 [] []
abbrev f36b : Pc := (.seq (.seq f36r0 (.cond (.tmp 12) .ret .skip)) (.seq f36r1 (.seq f36r2 (.seq f36r3 f36r4))))
abbrev f36 : Pfn := ⟨1, 52, [], f36b⟩
def f36K : Array (List Nat) := #[[0, 12], [0], [0], [0], []]
def f36H : Array (List Nat) := #[[], [], [], [], []]
def f36A : Ann := ⟨fun r => f36K.getD r [], fun r => f36H.getD r [], fun r i => ([] : List (Nat × Nat)).contains (r, i)⟩
theorem f36C : compF Go.Proofs.Tryz.prog f36A 36 = some f36 := by kernel_rfl

/-- (*switchboard/fleet.Fleet).come -/
abbrev f37o0 : List (Nat × Pop) := [
  (0, ⟨(some 2), .mv (.tmp 0), none⟩),
  (1, ⟨(some 3), .nchk (.tmp 2), none⟩),
  (2, ⟨(some 4), .fad 11 (.tmp 3), none⟩),
  (3, ⟨(some 5), .load false 1 (.tmp 4), none⟩),
  (4, ⟨(some 6), .mv (.tmp 0), none⟩),
  (5, ⟨(some 7), .nchk (.tmp 6), none⟩),
  (6, ⟨(some 8), .fad 0 (.tmp 7), none⟩),
  (7, ⟨(some 9), .fad 1 (.tmp 8), none⟩),
  (8, ⟨(some 10), .load false 1 (.tmp 9), none⟩),
  (9, ⟨(some 11), .lenL (.tmp 10), none⟩),
  (10, ⟨(some 12), .bin .lss (.tmp 5) (.tmp 11), none⟩),
  (11, ⟨(some 13), .mv (.tmp 12), none⟩),
  (12, ⟨(some 14), .mv (.tmp 0), (some (13, true))⟩),
  (13, ⟨(some 15), .nchk (.tmp 14), (some (13, true))⟩),
  (14, ⟨(some 16), .fad 14 (.tmp 15), (some (13, true))⟩),
  (15, ⟨(some 17), .load false 1 (.tmp 16), (some (13, true))⟩),
  (16, ⟨(some 18), .callq 74 [(.tmp 17), (.c (.t (.b false)))], (some (13, true))⟩),
  (17, ⟨(some 19), .un .not (.tmp 18), (some (13, true))⟩),
  (18, ⟨(some 20), .pick (.tmp 13) (.tmp 19) (.c (.t (.b false))), none⟩)]
abbrev f37r0 : Pc := .reg f37o0 [0, 20] []
abbrev f37o1 : List (Nat × Pop) := [
  (0, ⟨(some 21), .mv (.tmp 0), none⟩),
  (1, ⟨(some 22), .mv (.tmp 0), none⟩),
  (2, ⟨(some 23), .nchk (.tmp 22), none⟩),
  (3, ⟨(some 24), .fad 10 (.tmp 23), none⟩),
  (4, ⟨(some 25), .load false 1 (.tmp 24), none⟩),
  (5, ⟨(some 26), .mv (.tmp 0), none⟩),
  (6, ⟨(some 27), .nchk (.tmp 26), none⟩),
  (7, ⟨(some 28), .fad 12 (.tmp 27), none⟩),
  (8, ⟨(some 29), .load false 1 (.tmp 28), none⟩),
  (9, ⟨(some 30), .mv (.tmp 0), none⟩),
  (10, ⟨(some 31), .nchk (.tmp 30), none⟩),
  (11, ⟨(some 32), .fad 13 (.tmp 31), none⟩),
  (12, ⟨(some 33), .load false 1 (.tmp 32), none⟩),
  (13, ⟨(some 34), .call 75 [(.tmp 25), (.tmp 29), (.tmp 33)], none⟩),
  (14, ⟨(some 35), .nchk (.tmp 21), none⟩),
  (15, ⟨(some 36), .fad 10 (.tmp 35), none⟩),
  (16, ⟨none, .store 1 (.tmp 36) (.tmp 34), none⟩)]
abbrev f37r1 : Pc := .reg f37o1 [0] []
abbrev f37o2 : List (Nat × Pop) := [
  (0, ⟨(some 37), .mv (.tmp 0), none⟩),
  (1, ⟨(some 38), .nchk (.tmp 37), none⟩),
  (2, ⟨(some 39), .fad 11 (.tmp 38), none⟩),
  (3, ⟨(some 40), .load false 1 (.tmp 39), none⟩),
  (4, ⟨(some 41), .bin .add (.tmp 40) (.c (.t (.i .i64 1))), none⟩),
  (5, ⟨(some 42), .nchk (.tmp 37), none⟩),
  (6, ⟨(some 43), .fad 11 (.tmp 42), none⟩),
  (7, ⟨none, .store 1 (.tmp 43) (.tmp 41), none⟩)]
abbrev f37r2 : Pc := .reg f37o2 [0] []
abbrev f37o3 : List (Nat × Pop) := [
  (0, ⟨(some 44), .mv (.tmp 0), none⟩),
  (1, ⟨(some 45), .call 36 [(.tmp 44)], none⟩)]
abbrev f37r3 : Pc := .reg f37o3 [0] []
def f37l0 : Pc := (.seq (.seq f37r0 (.cond (.tmp 20) .skip (.exit 0))) (.block 1 (.seq f37r1 (.seq f37r2 f37r3))))
theorem f37l0e (C : Cfg) (s : St) : evL C f37l0 s = evL C (.seq (.seq f37r0 (.cond (.tmp 20) .skip (.exit 0))) (.block 1 (.seq f37r1 (.seq f37r2 f37r3)))) s := rfl
abbrev f37b : Pc := (.block 0 (.loop f37l0))
abbrev f37 : Pfn := ⟨1, 46, [], f37b⟩
def f37K : Array (List Nat) := #[[0, 20], [0], [0], [0]]
def f37H : Array (List Nat) := #[[], [], [], []]
def f37A : Ann := ⟨fun r => f37K.getD r [], fun r => f37H.getD r [], fun r i => ([(1, 2013)] : List (Nat × Nat)).contains (r, i)⟩
theorem f37C : compF Go.Proofs.Tryz.prog f37A 37 = some f37 := by kernel_rfl

/-- switchboard/switchboardref15.Right -/
abbrev f38o0 : List (Nat × Pop) := [
  (0, ⟨(some 1), .box 24 2 (.tmp 0), none⟩),
  (1, ⟨(some 2), .mv (.c (.t (.b false))), none⟩)]
abbrev f38r0 : Pc := .reg f38o0 [1] []
abbrev f38o1 : List (Nat × Pop) := [
  (0, ⟨(some 8), .fad 0 (.tmp 1), none⟩),
  (1, ⟨(some 9), .load false 1 (.tmp 8), none⟩),
  (2, ⟨(some 10), .bin .lss (.tmp 9) (.c (.t (.i .i64 1))), none⟩),
  (3, ⟨(some 11), .mv (.tmp 10), none⟩),
  (4, ⟨(some 12), .fad 0 (.tmp 1), (some (11, false))⟩),
  (5, ⟨(some 13), .load false 1 (.tmp 12), (some (11, false))⟩),
  (6, ⟨(some 14), .bin .gtr (.tmp 13) (.c (.t (.i .i64 8))), (some (11, false))⟩),
  (7, ⟨(some 15), .pick (.tmp 11) (.c (.t (.b true))) (.tmp 14), none⟩),
  (8, ⟨(some 16), .mv (.tmp 15), none⟩),
  (9, ⟨(some 17), .fad 1 (.tmp 1), (some (16, false))⟩),
  (10, ⟨(some 18), .load false 1 (.tmp 17), (some (16, false))⟩),
  (11, ⟨(some 19), .lenL (.tmp 18), (some (16, false))⟩),
  (12, ⟨(some 20), .bin .lss (.tmp 19) (.c (.t (.i .i64 1))), (some (16, false))⟩),
  (13, ⟨(some 21), .pick (.tmp 16) (.c (.t (.b true))) (.tmp 20), none⟩),
  (14, ⟨(some 22), .mv (.tmp 21), none⟩),
  (15, ⟨(some 23), .fad 1 (.tmp 1), (some (22, false))⟩),
  (16, ⟨(some 24), .load false 1 (.tmp 23), (some (22, false))⟩),
  (17, ⟨(some 25), .lenL (.tmp 24), (some (22, false))⟩),
  (18, ⟨(some 26), .bin .gtr (.tmp 25) (.c (.t (.i .i64 4))), (some (22, false))⟩),
  (19, ⟨(some 27), .pick (.tmp 22) (.c (.t (.b true))) (.tmp 26), none⟩)]
abbrev f38r1 : Pc := .reg f38o1 [1, 27] []
abbrev f38o2 : List (Nat × Pop) := [
  (0, ⟨(some 2), .mv (.c (.t (.b false))), none⟩)]
abbrev f38r2 : Pc := .reg f38o2 [2] [1]
abbrev f38o3 : List (Nat × Pop) := [
  (0, ⟨(some 28), .fad 1 (.tmp 1), none⟩),
  (1, ⟨(some 29), .load false 1 (.tmp 28), none⟩),
  (2, ⟨(some 30), .lenL (.tmp 29), none⟩),
  (3, ⟨(some 31), .mv (.c (.t (.i .i64 0))), none⟩)]
abbrev f38r3 : Pc := .reg f38o3 [1, 29, 30, 31] []
abbrev f38o4 : List (Nat × Pop) := [
  (0, ⟨(some 32), .bin .lss (.tmp 31) (.tmp 30), none⟩)]
abbrev f38r4 : Pc := .reg f38o4 [1, 29, 30, 31, 32] []
abbrev f38o5 : List (Nat × Pop) := [
  (0, ⟨(some 33), .ixS 3 (.tmp 29) (.tmp 31), none⟩),
  (1, ⟨(some 34), .load true 3 (.tmp 33), none⟩),
  (2, ⟨(some 4), .alloc 53 [.nl, .nl, (.t (.i .i64 0))], none⟩),
  (3, ⟨none, .store 3 (.tmp 4) (.tmp 34), none⟩)]
abbrev f38r5 : Pc := .reg f38o5 [1, 4, 29, 30, 31] []
abbrev f38o6 : List (Nat × Pop) := [
  (0, ⟨(some 35), .fad 1 (.tmp 4), none⟩),
  (1, ⟨(some 36), .load false 1 (.tmp 35), none⟩),
  (2, ⟨(some 37), .lenL (.tmp 36), none⟩),
  (3, ⟨(some 5), .mv (.tmp 37), none⟩)]
abbrev f38r6 : Pc := .reg f38o6 [1, 4, 5, 29, 30, 31] []
abbrev f38o7 : List (Nat × Pop) := [
  (0, ⟨(some 38), .mv (.tmp 5), none⟩),
  (1, ⟨(some 39), .bin .lss (.tmp 38) (.c (.t (.i .i64 1))), none⟩),
  (2, ⟨(some 40), .mv (.tmp 39), none⟩),
  (3, ⟨(some 41), .mv (.tmp 5), (some (40, false))⟩),
  (4, ⟨(some 42), .bin .gtr (.tmp 41) (.c (.t (.i .i64 8))), (some (40, false))⟩),
  (5, ⟨(some 43), .pick (.tmp 40) (.c (.t (.b true))) (.tmp 42), none⟩),
  (6, ⟨(some 44), .mv (.tmp 43), none⟩),
  (7, ⟨(some 45), .fad 0 (.tmp 4), (some (44, false))⟩),
  (8, ⟨(some 46), .load false 1 (.tmp 45), (some (44, false))⟩),
  (9, ⟨(some 47), .mv (.tmp 5), (some (44, false))⟩),
  (10, ⟨(some 48), .fad 0 (.tmp 1), (some (44, false))⟩),
  (11, ⟨(some 49), .load false 1 (.tmp 48), (some (44, false))⟩),
  (12, ⟨(some 50), .call 76 [(.tmp 46), (.tmp 47), (.tmp 49)], (some (44, false))⟩),
  (13, ⟨(some 51), .un .not (.tmp 50), (some (44, false))⟩),
  (14, ⟨(some 52), .pick (.tmp 44) (.c (.t (.b true))) (.tmp 51), none⟩),
  (15, ⟨(some 53), .mv (.tmp 52), none⟩),
  (16, ⟨(some 54), .fad 2 (.tmp 4), (some (53, false))⟩),
  (17, ⟨(some 55), .load false 1 (.tmp 54), (some (53, false))⟩),
  (18, ⟨(some 56), .bin .lss (.tmp 55) (.c (.t (.i .i64 1))), (some (53, false))⟩),
  (19, ⟨(some 57), .pick (.tmp 53) (.c (.t (.b true))) (.tmp 56), none⟩),
  (20, ⟨(some 58), .mv (.tmp 57), none⟩),
  (21, ⟨(some 59), .fad 2 (.tmp 4), (some (58, false))⟩),
  (22, ⟨(some 60), .load false 1 (.tmp 59), (some (58, false))⟩),
  (23, ⟨(some 61), .bin .gtr (.tmp 60) (.c (.t (.i .i64 32))), (some (58, false))⟩),
  (24, ⟨(some 62), .pick (.tmp 58) (.c (.t (.b true))) (.tmp 61), none⟩)]
abbrev f38r7 : Pc := .reg f38o7 [1, 4, 29, 30, 31, 62] []
abbrev f38o8 : List (Nat × Pop) := [
  (0, ⟨(some 2), .mv (.c (.t (.b false))), none⟩)]
abbrev f38r8 : Pc := .reg f38o8 [2] [1, 4]
abbrev f38o9 : List (Nat × Pop) := [
  (0, ⟨(some 63), .fad 1 (.tmp 4), none⟩),
  (1, ⟨(some 64), .load false 1 (.tmp 63), none⟩),
  (2, ⟨(some 65), .lenL (.tmp 64), none⟩),
  (3, ⟨(some 66), .mv (.c (.t (.i .i64 0))), none⟩)]
abbrev f38r9 : Pc := .reg f38o9 [1, 29, 30, 31, 64, 65, 66] [4]
abbrev f38o10 : List (Nat × Pop) := [
  (0, ⟨(some 67), .bin .lss (.tmp 66) (.tmp 65), none⟩)]
abbrev f38r10 : Pc := .reg f38o10 [1, 29, 30, 31, 64, 65, 66, 67] []
abbrev f38o11 : List (Nat × Pop) := [
  (0, ⟨(some 68), .ixS 2 (.tmp 64) (.tmp 66), none⟩),
  (1, ⟨(some 69), .load true 2 (.tmp 68), none⟩),
  (2, ⟨(some 7), .alloc 67 [.nl, .nl], none⟩),
  (3, ⟨none, .store 2 (.tmp 7) (.tmp 69), none⟩)]
abbrev f38r11 : Pc := .reg f38o11 [1, 7, 29, 30, 31, 64, 65, 66] []
abbrev f38o12 : List (Nat × Pop) := [
  (0, ⟨(some 70), .load true 2 (.tmp 7), none⟩),
  (1, ⟨(some 71), .fad 0 (.tmp 1), none⟩),
  (2, ⟨(some 72), .load false 1 (.tmp 71), none⟩),
  (3, ⟨(some 73), .call 77 [(.tmp 70), (.tmp 72)], none⟩),
  (4, ⟨(some 74), .un .not (.tmp 73), none⟩)]
abbrev f38r12 : Pc := .reg f38o12 [1, 29, 30, 31, 64, 65, 66, 74] [7]
abbrev f38o13 : List (Nat × Pop) := [
  (0, ⟨(some 2), .mv (.c (.t (.b false))), none⟩)]
abbrev f38r13 : Pc := .reg f38o13 [2] [1]
abbrev f38o14 : List (Nat × Pop) := [
  (0, ⟨(some 75), .bin .add (.tmp 66) (.c (.t (.i .i64 1))), none⟩),
  (1, ⟨(some 66), .mv (.tmp 75), none⟩)]
abbrev f38r14 : Pc := .reg f38o14 [1, 29, 30, 31, 64, 65, 66] []
def f38l0 : Pc := (.seq f38r10 (.seq (.cond (.tmp 67) .skip (.exit 2)) (.seq (.block 3 (.seq f38r11 (.seq f38r12 (.cond (.tmp 74) (.seq f38r13 .ret) .skip)))) f38r14)))
theorem f38l0e (C : Cfg) (s : St) : evL C f38l0 s = evL C (.seq f38r10 (.seq (.cond (.tmp 67) .skip (.exit 2)) (.seq (.block 3 (.seq f38r11 (.seq f38r12 (.cond (.tmp 74) (.seq f38r13 .ret) .skip)))) f38r14))) s := rfl
abbrev f38o15 : List (Nat × Pop) := [
  (0, ⟨(some 76), .bin .add (.tmp 31) (.c (.t (.i .i64 1))), none⟩),
  (1, ⟨(some 31), .mv (.tmp 76), none⟩)]
abbrev f38r15 : Pc := .reg f38o15 [1, 29, 30, 31] []
def f38l1 : Pc := (.seq f38r4 (.seq (.cond (.tmp 32) .skip (.exit 0)) (.seq (.block 1 (.seq f38r5 (.seq f38r6 (.seq (.seq f38r7 (.cond (.tmp 62) (.seq f38r8 .ret) .skip)) (.seq f38r9 (.block 2 (.loop f38l0))))))) f38r15)))
theorem f38l1e (C : Cfg) (s : St) : evL C f38l1 s = evL C (.seq f38r4 (.seq (.cond (.tmp 32) .skip (.exit 0)) (.seq (.block 1 (.seq f38r5 (.seq f38r6 (.seq (.seq f38r7 (.cond (.tmp 62) (.seq f38r8 .ret) .skip)) (.seq f38r9 (.block 2 (.loop f38l0))))))) f38r15))) s := rfl
abbrev f38o16 : List (Nat × Pop) := [
  (0, ⟨(some 2), .mv (.c (.t (.b true))), none⟩)]
abbrev f38r16 : Pc := .reg f38o16 [2] [1]
abbrev f38b : Pc := (.seq f38r0 (.seq (.seq f38r1 (.cond (.tmp 27) (.seq f38r2 .ret) .skip)) (.seq (.seq f38r3 (.block 0 (.loop f38l1))) (.seq f38r16 .ret))))
abbrev f38 : Pfn := ⟨1, 77, [.tmp 2], f38b⟩
def f38K : Array (List Nat) := #[[1], [1, 27], [2], [1, 29, 30, 31], [1, 29, 30, 31, 32], [1, 4, 29, 30, 31], [1, 4, 5, 29, 30, 31], [1, 4, 29, 30, 31, 62], [2], [1, 29, 30, 31, 64, 65, 66], [1, 29, 30, 31, 64, 65, 66, 67], [1, 7, 29, 30, 31, 64, 65, 66], [1, 29, 30, 31, 64, 65, 66, 74], [2], [1, 29, 30, 31, 64, 65, 66], [1, 29, 30, 31], [2]]
def f38H : Array (List Nat) := #[[], [], [1], [], [], [], [], [], [1, 4], [4], [], [], [7], [1], [], [], [1]]
def f38A : Ann := ⟨fun r => f38K.getD r [], fun r => f38H.getD r [], fun r i => ([] : List (Nat × Nat)).contains (r, i)⟩
theorem f38C : compF Go.Proofs.Tryz.prog f38A 38 = some f38 := by kernel_rfl

/-- switchboard/switchboardref15.Tokens -/
abbrev f39o0 : List (Nat × Pop) := [
  (0, ⟨(some 2), .box 24 2 (.tmp 0), none⟩),
  (1, ⟨(some 4), .mv (.c (.t (.b false))), none⟩)]
abbrev f39r0 : Pc := .reg f39o0 [1, 2] []
abbrev f39o1 : List (Nat × Pop) := [
  (0, ⟨(some 5), .mv (.tmp 1), none⟩),
  (1, ⟨(some 6), .lenL (.tmp 5), none⟩),
  (2, ⟨(some 7), .bin .gtr (.tmp 6) (.c (.t (.i .i64 0))), none⟩),
  (3, ⟨(some 8), .mv (.tmp 7), none⟩),
  (4, ⟨(some 9), .mv (.tmp 1), (some (8, true))⟩),
  (5, ⟨(some 10), .lenL (.tmp 9), (some (8, true))⟩),
  (6, ⟨(some 11), .bin .lss (.tmp 10) (.c (.t (.i .i64 17))), (some (8, true))⟩),
  (7, ⟨(some 12), .pick (.tmp 8) (.tmp 11) (.c (.t (.b false))), none⟩),
  (8, ⟨(some 13), .mv (.tmp 12), none⟩),
  (9, ⟨(some 14), .mv (.tmp 1), (some (13, true))⟩),
  (10, ⟨(some 15), .mv (.tmp 1), (some (13, true))⟩),
  (11, ⟨(some 16), .lenL (.tmp 15), (some (13, true))⟩),
  (12, ⟨(some 17), .fad 0 (.tmp 2), (some (13, true))⟩),
  (13, ⟨(some 18), .load false 1 (.tmp 17), (some (13, true))⟩),
  (14, ⟨(some 19), .call 76 [(.tmp 14), (.tmp 16), (.tmp 18)], (some (13, true))⟩),
  (15, ⟨(some 20), .pick (.tmp 13) (.tmp 19) (.c (.t (.b false))), none⟩),
  (16, ⟨(some 4), .mv (.tmp 20), none⟩)]
abbrev f39r1 : Pc := .reg f39o1 [4] [2]
abbrev f39b : Pc := (.seq f39r0 (.seq f39r1 .ret))
abbrev f39 : Pfn := ⟨2, 21, [.tmp 4], f39b⟩
def f39K : Array (List Nat) := #[[1, 2], [4]]
def f39H : Array (List Nat) := #[[], [2]]
def f39A : Ann := ⟨fun r => f39K.getD r [], fun r => f39H.getD r [], fun r i => ([] : List (Nat × Nat)).contains (r, i)⟩
theorem f39C : compF Go.Proofs.Tryz.prog f39A 39 = some f39 := by kernel_rfl

/-- switchboard/switchboardref17.Right -/
abbrev f40o0 : List (Nat × Pop) := [
  (0, ⟨(some 1), .box 35 2 (.tmp 0), none⟩),
  (1, ⟨(some 2), .mv (.c (.t (.b false))), none⟩)]
abbrev f40r0 : Pc := .reg f40o0 [1] []
abbrev f40o1 : List (Nat × Pop) := [
  (0, ⟨(some 6), .fad 0 (.tmp 1), none⟩),
  (1, ⟨(some 7), .load false 1 (.tmp 6), none⟩),
  (2, ⟨(some 8), .bin .lss (.tmp 7) (.c (.t (.i .i64 0))), none⟩),
  (3, ⟨(some 9), .mv (.tmp 8), none⟩),
  (4, ⟨(some 10), .fad 0 (.tmp 1), (some (9, false))⟩),
  (5, ⟨(some 11), .load false 1 (.tmp 10), (some (9, false))⟩),
  (6, ⟨(some 12), .bin .gtr (.tmp 11) (.c (.t (.i .i64 2147483647))), (some (9, false))⟩),
  (7, ⟨(some 13), .pick (.tmp 9) (.c (.t (.b true))) (.tmp 12), none⟩),
  (8, ⟨(some 14), .mv (.tmp 13), none⟩),
  (9, ⟨(some 15), .fad 1 (.tmp 1), (some (14, false))⟩),
  (10, ⟨(some 16), .load false 1 (.tmp 15), (some (14, false))⟩),
  (11, ⟨(some 17), .lenL (.tmp 16), (some (14, false))⟩),
  (12, ⟨(some 18), .bin .gtr (.tmp 17) (.c (.t (.i .i64 8))), (some (14, false))⟩),
  (13, ⟨(some 19), .pick (.tmp 14) (.c (.t (.b true))) (.tmp 18), none⟩)]
abbrev f40r1 : Pc := .reg f40o1 [1, 19] []
abbrev f40o2 : List (Nat × Pop) := [
  (0, ⟨(some 2), .mv (.c (.t (.b false))), none⟩)]
abbrev f40r2 : Pc := .reg f40o2 [2] [1]
abbrev f40o3 : List (Nat × Pop) := [
  (0, ⟨(some 3), .mv (.c (.t (.i .i64 0))), none⟩)]
abbrev f40r3 : Pc := .reg f40o3 [1, 3] []
abbrev f40o4 : List (Nat × Pop) := [
  (0, ⟨(some 20), .mv (.tmp 3), none⟩),
  (1, ⟨(some 21), .fad 1 (.tmp 1), none⟩),
  (2, ⟨(some 22), .load false 1 (.tmp 21), none⟩),
  (3, ⟨(some 23), .lenL (.tmp 22), none⟩),
  (4, ⟨(some 24), .bin .lss (.tmp 20) (.tmp 23), none⟩)]
abbrev f40r4 : Pc := .reg f40o4 [1, 3, 24] []
abbrev f40o6 : List (Nat × Pop) := [
  (0, ⟨(some 27), .fad 1 (.tmp 1), none⟩),
  (1, ⟨(some 28), .load false 1 (.tmp 27), none⟩),
  (2, ⟨(some 29), .mv (.tmp 3), none⟩),
  (3, ⟨(some 30), .ixS 1 (.tmp 28) (.tmp 29), none⟩),
  (4, ⟨(some 31), .load false 1 (.tmp 30), none⟩),
  (5, ⟨(some 4), .mv (.tmp 31), none⟩)]
abbrev f40r6 : Pc := .reg f40o6 [1, 3, 4] []
abbrev f40o7 : List (Nat × Pop) := [
  (0, ⟨(some 32), .mv (.tmp 4), none⟩),
  (1, ⟨(some 33), .lenL (.tmp 32), none⟩),
  (2, ⟨(some 34), .bin .eql (.tmp 33) (.c (.t (.i .i64 0))), none⟩)]
abbrev f40r7 : Pc := .reg f40o7 [1, 3, 4, 34] []
abbrev f40o8 : List (Nat × Pop) := [
  (0, ⟨(some 2), .mv (.c (.t (.b false))), none⟩)]
abbrev f40r8 : Pc := .reg f40o8 [2] [1]
abbrev f40o9 : List (Nat × Pop) := [
  (0, ⟨(some 5), .mv (.c (.t (.i .i64 0))), none⟩)]
abbrev f40r9 : Pc := .reg f40o9 [1, 3, 4, 5] []
abbrev f40o10 : List (Nat × Pop) := [
  (0, ⟨(some 35), .mv (.tmp 5), none⟩),
  (1, ⟨(some 36), .mv (.tmp 4), none⟩),
  (2, ⟨(some 37), .lenL (.tmp 36), none⟩),
  (3, ⟨(some 38), .bin .lss (.tmp 35) (.tmp 37), none⟩)]
abbrev f40r10 : Pc := .reg f40o10 [1, 3, 4, 5, 38] []
abbrev f40o12 : List (Nat × Pop) := [
  (0, ⟨(some 41), .mv (.tmp 4), none⟩),
  (1, ⟨(some 42), .mv (.tmp 5), none⟩),
  (2, ⟨(some 43), .ixS 1 (.tmp 41) (.tmp 42), none⟩),
  (3, ⟨(some 44), .load false 1 (.tmp 43), none⟩),
  (4, ⟨(some 45), .bin .lss (.tmp 44) (.c (.t (.i .i64 1))), none⟩),
  (5, ⟨(some 46), .mv (.tmp 45), none⟩),
  (6, ⟨(some 47), .mv (.tmp 4), (some (46, false))⟩),
  (7, ⟨(some 48), .mv (.tmp 5), (some (46, false))⟩),
  (8, ⟨(some 49), .ixS 1 (.tmp 47) (.tmp 48), (some (46, false))⟩),
  (9, ⟨(some 50), .load false 1 (.tmp 49), (some (46, false))⟩),
  (10, ⟨(some 51), .bin .gtr (.tmp 50) (.c (.t (.i .i64 4))), (some (46, false))⟩),
  (11, ⟨(some 52), .pick (.tmp 46) (.c (.t (.b true))) (.tmp 51), none⟩),
  (12, ⟨(some 53), .mv (.tmp 52), none⟩),
  (13, ⟨(some 54), .mv (.tmp 5), (some (53, false))⟩),
  (14, ⟨(some 55), .bin .gtr (.tmp 54) (.c (.t (.i .i64 0))), (some (53, false))⟩),
  (15, ⟨(some 56), .mv (.tmp 55), (some (53, false))⟩),
  (16, ⟨(some 57), .mv (.tmp 4), (some (56, true))⟩),
  (17, ⟨(some 58), .mv (.tmp 5), (some (56, true))⟩),
  (18, ⟨(some 59), .ixS 1 (.tmp 57) (.tmp 58), (some (56, true))⟩),
  (19, ⟨(some 60), .load false 1 (.tmp 59), (some (56, true))⟩),
  (20, ⟨(some 61), .mv (.tmp 4), (some (56, true))⟩),
  (21, ⟨(some 62), .mv (.tmp 5), (some (56, true))⟩),
  (22, ⟨(some 63), .bin .sub (.tmp 62) (.c (.t (.i .i64 1))), (some (56, true))⟩),
  (23, ⟨(some 64), .ixS 1 (.tmp 61) (.tmp 63), (some (56, true))⟩),
  (24, ⟨(some 65), .load false 1 (.tmp 64), (some (56, true))⟩),
  (25, ⟨(some 66), .bin .leq (.tmp 60) (.tmp 65), (some (56, true))⟩),
  (26, ⟨(some 67), .pick (.tmp 56) (.tmp 66) (.c (.t (.b false))), (some (53, false))⟩),
  (27, ⟨(some 68), .pick (.tmp 53) (.c (.t (.b true))) (.tmp 67), none⟩)]
abbrev f40r12 : Pc := .reg f40o12 [1, 3, 4, 5, 68] []
abbrev f40o13 : List (Nat × Pop) := [
  (0, ⟨(some 2), .mv (.c (.t (.b false))), none⟩)]
abbrev f40r13 : Pc := .reg f40o13 [2] [1]
abbrev f40o11 : List (Nat × Pop) := [
  (0, ⟨(some 39), .mv (.tmp 5), none⟩),
  (1, ⟨(some 40), .bin .add (.tmp 39) (.c (.t (.i .i64 1))), none⟩),
  (2, ⟨(some 5), .mv (.tmp 40), none⟩)]
abbrev f40r11 : Pc := .reg f40o11 [1, 3, 4, 5] []
def f40l0 : Pc := (.seq (.seq f40r10 (.cond (.tmp 38) .skip (.exit 2))) (.seq (.block 3 (.seq f40r12 (.cond (.tmp 68) (.seq f40r13 .ret) .skip))) f40r11))
theorem f40l0e (C : Cfg) (s : St) : evL C f40l0 s = evL C (.seq (.seq f40r10 (.cond (.tmp 38) .skip (.exit 2))) (.seq (.block 3 (.seq f40r12 (.cond (.tmp 68) (.seq f40r13 .ret) .skip))) f40r11)) s := rfl
abbrev f40o5 : List (Nat × Pop) := [
  (0, ⟨(some 25), .mv (.tmp 3), none⟩),
  (1, ⟨(some 26), .bin .add (.tmp 25) (.c (.t (.i .i64 1))), none⟩),
  (2, ⟨(some 3), .mv (.tmp 26), none⟩)]
abbrev f40r5 : Pc := .reg f40o5 [1, 3] []
def f40l1 : Pc := (.seq (.seq f40r4 (.cond (.tmp 24) .skip (.exit 0))) (.seq (.block 1 (.seq f40r6 (.seq (.seq f40r7 (.cond (.tmp 34) (.seq f40r8 .ret) .skip)) (.seq f40r9 (.block 2 (.loop f40l0)))))) f40r5))
theorem f40l1e (C : Cfg) (s : St) : evL C f40l1 s = evL C (.seq (.seq f40r4 (.cond (.tmp 24) .skip (.exit 0))) (.seq (.block 1 (.seq f40r6 (.seq (.seq f40r7 (.cond (.tmp 34) (.seq f40r8 .ret) .skip)) (.seq f40r9 (.block 2 (.loop f40l0)))))) f40r5)) s := rfl
abbrev f40o14 : List (Nat × Pop) := [
  (0, ⟨(some 2), .mv (.c (.t (.b true))), none⟩)]
abbrev f40r14 : Pc := .reg f40o14 [2] [1]
abbrev f40b : Pc := (.seq f40r0 (.seq (.seq f40r1 (.cond (.tmp 19) (.seq f40r2 .ret) .skip)) (.seq (.seq f40r3 (.block 0 (.loop f40l1))) (.seq f40r14 .ret))))
abbrev f40 : Pfn := ⟨1, 69, [.tmp 2], f40b⟩
def f40K : Array (List Nat) := #[[1], [1, 19], [2], [1, 3], [1, 3, 24], [1, 3], [1, 3, 4], [1, 3, 4, 34], [2], [1, 3, 4, 5], [1, 3, 4, 5, 38], [1, 3, 4, 5], [1, 3, 4, 5, 68], [2], [2]]
def f40H : Array (List Nat) := #[[], [], [1], [], [], [], [], [], [1], [], [], [], [], [1], [1]]
def f40A : Ann := ⟨fun r => f40K.getD r [], fun r => f40H.getD r [], fun r i => ([] : List (Nat × Nat)).contains (r, i)⟩
theorem f40C : compF Go.Proofs.Tryz.prog f40A 40 = some f40 := by kernel_rfl

/-- slices.Clone[[]string,string] -/
abbrev f41o0 : List (Nat × Pop) := [
  (0, ⟨(some 2), .nilv 9 1, none⟩)]
abbrev f41r0 : Pc := .reg f41o0 [0] [2, 5, 7]
abbrev f41o1 : List (Nat × Pop) := [
  (0, ⟨(some 3), .mv (.tmp 0), none⟩),
  (1, ⟨(some 4), .isnilS false (.tmp 3), none⟩)]
abbrev f41r1 : Pc := .reg f41o1 [0, 4] []
abbrev f41o2 : List (Nat × Pop) := [
  (0, ⟨(some 2), .nilv 9 1, none⟩)]
abbrev f41r2 : Pc := .reg f41o2 [2] []
abbrev f41o3 : List (Nat × Pop) := [
  (0, ⟨(some 5), .bslO 9 1 [], none⟩),
  (1, ⟨(some 6), .mv (.tmp 0), none⟩),
  (2, ⟨(some 7), .app 9 1 16 (.tmp 5) (.tmp 6), none⟩),
  (3, ⟨(some 2), .mv (.tmp 7), none⟩)]
abbrev f41r3 : Pc := .reg f41o3 [2] []
abbrev f41b : Pc := (.seq f41r0 (.seq (.seq f41r1 (.cond (.tmp 4) (.seq f41r2 .ret) .skip)) (.seq f41r3 .ret)))
abbrev f41 : Pfn := ⟨1, 8, [.tmp 2], f41b⟩
def f41K : Array (List Nat) := #[[0], [0, 4], [2], [2]]
def f41H : Array (List Nat) := #[[2, 5, 7], [], [], []]
def f41A : Ann := ⟨fun r => f41K.getD r [], fun r => f41H.getD r [], fun r i => ([(3, 0), (3, 0)] : List (Nat × Nat)).contains (r, i)⟩
theorem f41C : compF Go.Proofs.Tryz.prog f41A 41 = some f41 := by kernel_rfl

/-- switchboard/switchboardref07.List -/
abbrev f42o0 : List (Nat × Pop) := [
  (0, ⟨(some 1), .box 44 11 (.tmp 0), none⟩),
  (1, ⟨(some 2), .nilv 3 1, none⟩)]
abbrev f42r0 : Pc := .reg f42o0 [1] [2, 27, 31]
abbrev f42o1 : List (Nat × Pop) := [
  (0, ⟨(some 4), .fad 0 (.tmp 1), none⟩),
  (1, ⟨(some 5), .load false 1 (.tmp 4), none⟩),
  (2, ⟨(some 6), .fad 1 (.tmp 1), none⟩),
  (3, ⟨(some 7), .load false 1 (.tmp 6), none⟩),
  (4, ⟨(some 8), .fad 2 (.tmp 1), none⟩),
  (5, ⟨(some 9), .load false 1 (.tmp 8), none⟩),
  (6, ⟨(some 10), .fad 3 (.tmp 1), none⟩),
  (7, ⟨(some 11), .load false 1 (.tmp 10), none⟩),
  (8, ⟨(some 12), .fad 4 (.tmp 1), none⟩),
  (9, ⟨(some 13), .load false 1 (.tmp 12), none⟩),
  (10, ⟨(some 14), .fad 5 (.tmp 1), none⟩),
  (11, ⟨(some 15), .load false 1 (.tmp 14), none⟩),
  (12, ⟨(some 16), .fad 6 (.tmp 1), none⟩),
  (13, ⟨(some 17), .load false 1 (.tmp 16), none⟩),
  (14, ⟨(some 18), .fad 7 (.tmp 1), none⟩),
  (15, ⟨(some 19), .load false 1 (.tmp 18), none⟩),
  (16, ⟨(some 20), .fad 8 (.tmp 1), none⟩),
  (17, ⟨(some 21), .load false 1 (.tmp 20), none⟩),
  (18, ⟨(some 22), .fad 9 (.tmp 1), none⟩),
  (19, ⟨(some 23), .load false 1 (.tmp 22), none⟩),
  (20, ⟨(some 24), .fad 10 (.tmp 1), none⟩),
  (21, ⟨(some 25), .load false 1 (.tmp 24), none⟩),
  (22, ⟨(some 26), .lenL (.tmp 25), none⟩),
  (23, ⟨(some 27), .bslO 3 1 [(.tmp 5), (.tmp 7), (.tmp 9), (.tmp 11), (.tmp 13), (.tmp 15), (.tmp 17), (.tmp 19), (.tmp 21), (.tmp 23), (.tmp 26)], none⟩),
  (24, ⟨(some 3), .mv (.tmp 27), none⟩)]
abbrev f42r1 : Pc := .reg f42o1 [1, 3] []
abbrev f42o2 : List (Nat × Pop) := [
  (0, ⟨(some 28), .mv (.tmp 3), none⟩),
  (1, ⟨(some 29), .fad 10 (.tmp 1), none⟩),
  (2, ⟨(some 30), .load false 1 (.tmp 29), none⟩),
  (3, ⟨(some 31), .app 3 1 8 (.tmp 28) (.tmp 30), none⟩),
  (4, ⟨(some 2), .mv (.tmp 31), none⟩)]
abbrev f42r2 : Pc := .reg f42o2 [2] [1]
abbrev f42b : Pc := (.seq f42r0 (.seq f42r1 (.seq f42r2 .ret)))
abbrev f42 : Pfn := ⟨1, 32, [.tmp 2], f42b⟩
def f42K : Array (List Nat) := #[[1], [1, 3], [2]]
def f42H : Array (List Nat) := #[[2, 27, 31], [], [1]]
def f42A : Ann := ⟨fun r => f42K.getD r [], fun r => f42H.getD r [], fun r i => ([(1, 23)] : List (Nat × Nat)).contains (r, i)⟩
theorem f42C : compF Go.Proofs.Tryz.prog f42A 42 = some f42 := by kernel_rfl

/-- switchboard/switchboardref07.four -/
abbrev f43o0 : List (Nat × Pop) := [
  (0, ⟨(some 2), .mv (.c (.t (.s []))), none⟩)]
abbrev f43r0 : Pc := .reg f43o0 [0] []
abbrev f43o1 : List (Nat × Pop) := [
  (0, ⟨(some 3), .mv (.tmp 0), none⟩),
  (1, ⟨(some 4), .bin .lss (.tmp 3) (.c (.t (.i .i64 0))), none⟩)]
abbrev f43r1 : Pc := .reg f43o1 [0, 4] []
abbrev f43o2 : List (Nat × Pop) := [
  (0, ⟨(some 5), .mv (.tmp 0), none⟩),
  (1, ⟨(some 6), .bin .add (.tmp 5) (.c (.t (.i .i64 4294967296))), none⟩),
  (2, ⟨(some 0), .mv (.tmp 6), none⟩)]
abbrev f43r2 : Pc := .reg f43o2 [0] []
abbrev f43o3 : List (Nat × Pop) := [
  (0, ⟨(some 7), .mv (.tmp 0), none⟩),
  (1, ⟨(some 8), .bin .rem (.tmp 7) (.c (.t (.i .i64 256))), none⟩),
  (2, ⟨(some 9), .cvi .u8 (.tmp 8), none⟩),
  (3, ⟨(some 10), .mv (.tmp 0), none⟩),
  (4, ⟨(some 11), .bin .quo (.tmp 10) (.c (.t (.i .i64 256))), none⟩),
  (5, ⟨(some 12), .bin .rem (.tmp 11) (.c (.t (.i .i64 256))), none⟩),
  (6, ⟨(some 13), .cvi .u8 (.tmp 12), none⟩),
  (7, ⟨(some 14), .mv (.tmp 0), none⟩),
  (8, ⟨(some 15), .bin .quo (.tmp 14) (.c (.t (.i .i64 65536))), none⟩),
  (9, ⟨(some 16), .bin .rem (.tmp 15) (.c (.t (.i .i64 256))), none⟩),
  (10, ⟨(some 17), .cvi .u8 (.tmp 16), none⟩),
  (11, ⟨(some 18), .mv (.tmp 0), none⟩),
  (12, ⟨(some 19), .bin .quo (.tmp 18) (.c (.t (.i .i64 16777216))), none⟩),
  (13, ⟨(some 20), .bin .rem (.tmp 19) (.c (.t (.i .i64 256))), none⟩),
  (14, ⟨(some 21), .cvi .u8 (.tmp 20), none⟩),
  (15, ⟨(some 22), .bslT 1 [(.tmp 9), (.tmp 13), (.tmp 17), (.tmp 21)], none⟩),
  (16, ⟨(some 23), .cvbs (.tmp 22), none⟩),
  (17, ⟨(some 2), .mv (.tmp 23), none⟩)]
abbrev f43r3 : Pc := .reg f43o3 [2] []
abbrev f43b : Pc := (.seq f43r0 (.seq (.seq f43r1 (.cond (.tmp 4) f43r2 .skip)) (.seq f43r3 .ret)))
abbrev f43 : Pfn := ⟨1, 24, [.tmp 2], f43b⟩
def f43K : Array (List Nat) := #[[0], [0, 4], [0], [2]]
def f43H : Array (List Nat) := #[[], [], [], []]
def f43A : Ann := ⟨fun r => f43K.getD r [], fun r => f43H.getD r [], fun r i => ([] : List (Nat × Nat)).contains (r, i)⟩
theorem f43C : compF Go.Proofs.Tryz.prog f43A 43 = some f43 := by kernel_rfl

/-- switchboard/switchboardref06.Sum -/
abbrev f44o0 : List (Nat × Pop) := [
  (0, ⟨(some 2), .mv (.c (.t (.i .i64 0))), none⟩)]
abbrev f44r0 : Pc := .reg f44o0 [0] []
abbrev f44o1 : List (Nat × Pop) := [
  (0, ⟨(some 3), .mv (.c (.t (.i .i64 4294967295))), none⟩)]
abbrev f44r1 : Pc := .reg f44o1 [0, 3] []
abbrev f44o2 : List (Nat × Pop) := [
  (0, ⟨(some 4), .mv (.c (.t (.i .i64 0))), none⟩)]
abbrev f44r2 : Pc := .reg f44o2 [0, 3, 4] []
abbrev f44o3 : List (Nat × Pop) := [
  (0, ⟨(some 7), .mv (.tmp 4), none⟩),
  (1, ⟨(some 8), .mv (.tmp 0), none⟩),
  (2, ⟨(some 9), .lenS (.tmp 8), none⟩),
  (3, ⟨(some 10), .bin .lss (.tmp 7) (.tmp 9), none⟩)]
abbrev f44r3 : Pc := .reg f44o3 [0, 3, 4, 10] []
abbrev f44o5 : List (Nat × Pop) := [
  (0, ⟨(some 13), .mv (.tmp 3), none⟩),
  (1, ⟨(some 14), .mv (.tmp 0), none⟩),
  (2, ⟨(some 15), .mv (.tmp 4), none⟩),
  (3, ⟨(some 16), .ixs (.tmp 14) (.tmp 15), none⟩),
  (4, ⟨(some 17), .cvi .i64 (.tmp 16), none⟩),
  (5, ⟨(some 18), .call 78 [(.tmp 13), (.tmp 17)], none⟩),
  (6, ⟨(some 3), .mv (.tmp 18), none⟩)]
abbrev f44r5 : Pc := .reg f44o5 [0, 3, 4] []
abbrev f44o6 : List (Nat × Pop) := [
  (0, ⟨(some 5), .mv (.c (.t (.i .i64 0))), none⟩)]
abbrev f44r6 : Pc := .reg f44o6 [0, 3, 4, 5] []
abbrev f44o7 : List (Nat × Pop) := [
  (0, ⟨(some 19), .mv (.tmp 5), none⟩),
  (1, ⟨(some 20), .bin .lss (.tmp 19) (.c (.t (.i .i64 8))), none⟩)]
abbrev f44r7 : Pc := .reg f44o7 [0, 3, 4, 5, 20] []
abbrev f44o9 : List (Nat × Pop) := [
  (0, ⟨(some 23), .mv (.tmp 3), none⟩),
  (1, ⟨(some 24), .bin .rem (.tmp 23) (.c (.t (.i .i64 2))), none⟩),
  (2, ⟨(some 25), .bin .eql (.tmp 24) (.c (.t (.i .i64 1))), none⟩),
  (3, ⟨(some 6), .mv (.tmp 25), none⟩)]
abbrev f44r9 : Pc := .reg f44o9 [0, 3, 4, 5, 6] []
abbrev f44o10 : List (Nat × Pop) := [
  (0, ⟨(some 26), .mv (.tmp 3), none⟩),
  (1, ⟨(some 27), .bin .quo (.tmp 26) (.c (.t (.i .i64 2))), none⟩),
  (2, ⟨(some 3), .mv (.tmp 27), none⟩)]
abbrev f44r10 : Pc := .reg f44o10 [0, 3, 4, 5, 6] []
abbrev f44o11 : List (Nat × Pop) := [
  (0, ⟨(some 28), .mv (.tmp 6), none⟩)]
abbrev f44r11 : Pc := .reg f44o11 [0, 3, 4, 5, 28] []
abbrev f44o12 : List (Nat × Pop) := [
  (0, ⟨(some 29), .mv (.tmp 3), none⟩),
  (1, ⟨(some 30), .call 78 [(.tmp 29), (.c (.t (.i .i64 3988292384)))], none⟩),
  (2, ⟨(some 3), .mv (.tmp 30), none⟩)]
abbrev f44r12 : Pc := .reg f44o12 [0, 3, 4, 5] []
abbrev f44o8 : List (Nat × Pop) := [
  (0, ⟨(some 21), .mv (.tmp 5), none⟩),
  (1, ⟨(some 22), .bin .add (.tmp 21) (.c (.t (.i .i64 1))), none⟩),
  (2, ⟨(some 5), .mv (.tmp 22), none⟩)]
abbrev f44r8 : Pc := .reg f44o8 [0, 3, 4, 5] []
def f44l0 : Pc := (.seq (.seq f44r7 (.cond (.tmp 20) .skip (.exit 2))) (.seq (.block 3 (.seq f44r9 (.seq f44r10 (.seq f44r11 (.cond (.tmp 28) f44r12 .skip))))) f44r8))
theorem f44l0e (C : Cfg) (s : St) : evL C f44l0 s = evL C (.seq (.seq f44r7 (.cond (.tmp 20) .skip (.exit 2))) (.seq (.block 3 (.seq f44r9 (.seq f44r10 (.seq f44r11 (.cond (.tmp 28) f44r12 .skip))))) f44r8)) s := rfl
abbrev f44o4 : List (Nat × Pop) := [
  (0, ⟨(some 11), .mv (.tmp 4), none⟩),
  (1, ⟨(some 12), .bin .add (.tmp 11) (.c (.t (.i .i64 1))), none⟩),
  (2, ⟨(some 4), .mv (.tmp 12), none⟩)]
abbrev f44r4 : Pc := .reg f44o4 [0, 3, 4] []
def f44l1 : Pc := (.seq (.seq f44r3 (.cond (.tmp 10) .skip (.exit 0))) (.seq (.block 1 (.seq f44r5 (.seq f44r6 (.block 2 (.loop f44l0))))) f44r4))
theorem f44l1e (C : Cfg) (s : St) : evL C f44l1 s = evL C (.seq (.seq f44r3 (.cond (.tmp 10) .skip (.exit 0))) (.seq (.block 1 (.seq f44r5 (.seq f44r6 (.block 2 (.loop f44l0))))) f44r4)) s := rfl
abbrev f44o13 : List (Nat × Pop) := [
  (0, ⟨(some 31), .mv (.tmp 3), none⟩),
  (1, ⟨(some 32), .call 78 [(.tmp 31), (.c (.t (.i .i64 4294967295)))], none⟩),
  (2, ⟨(some 2), .mv (.tmp 32), none⟩)]
abbrev f44r13 : Pc := .reg f44o13 [2] []
abbrev f44b : Pc := (.seq f44r0 (.seq f44r1 (.seq (.seq f44r2 (.block 0 (.loop f44l1))) (.seq f44r13 .ret))))
abbrev f44 : Pfn := ⟨1, 33, [.tmp 2], f44b⟩
def f44K : Array (List Nat) := #[[0], [0, 3], [0, 3, 4], [0, 3, 4, 10], [0, 3, 4], [0, 3, 4], [0, 3, 4, 5], [0, 3, 4, 5, 20], [0, 3, 4, 5], [0, 3, 4, 5, 6], [0, 3, 4, 5, 6], [0, 3, 4, 5, 28], [0, 3, 4, 5], [2]]
def f44H : Array (List Nat) := #[[], [], [], [], [], [], [], [], [], [], [], [], [], []]
def f44A : Ann := ⟨fun r => f44K.getD r [], fun r => f44H.getD r [], fun r i => ([] : List (Nat × Nat)).contains (r, i)⟩
theorem f44C : compF Go.Proofs.Tryz.prog f44A 44 = some f44 := by kernel_rfl

/-- switchboard/switchboardref13.Choose -/
abbrev f45o0 : List (Nat × Pop) := [
  (0, ⟨(some 4), .alloc 88 [(.t (.i .i64 0)), (.t (.i .i64 0)), (.t (.i .i64 0)), (.t (.i .i64 0))], none⟩),
  (1, ⟨(some 5), .mv (.c (.t (.b false))), none⟩)]
abbrev f45r0 : Pc := .reg f45o0 [0, 1, 4] []
abbrev f45o1 : List (Nat × Pop) := [
  (0, ⟨(some 12), .mv (.tmp 0), none⟩),
  (1, ⟨(some 13), .mv (.tmp 1), none⟩),
  (2, ⟨(some 14), .call 79 [(.tmp 12), (.tmp 13)], none⟩),
  (3, ⟨(some 11), .mv (.tmp 14), none⟩),
  (4, ⟨(some 15), .ext 0 (.tmp 11), none⟩),
  (5, ⟨(some 16), .ext 1 (.tmp 11), none⟩),
  (6, ⟨(some 6), .mv (.tmp 15), none⟩),
  (7, ⟨(some 7), .mv (.tmp 16), none⟩)]
abbrev f45r1 : Pc := .reg f45o1 [4, 6, 7] []
abbrev f45o2 : List (Nat × Pop) := [
  (0, ⟨(some 17), .mv (.tmp 7), none⟩),
  (1, ⟨(some 18), .un .not (.tmp 17), none⟩),
  (2, ⟨(some 19), .mv (.tmp 18), none⟩),
  (3, ⟨(some 20), .mv (.tmp 6), (some (19, false))⟩),
  (4, ⟨(some 21), .lenL (.tmp 20), (some (19, false))⟩),
  (5, ⟨(some 22), .bin .eql (.tmp 21) (.c (.t (.i .i64 0))), (some (19, false))⟩),
  (6, ⟨(some 23), .pick (.tmp 19) (.c (.t (.b true))) (.tmp 22), none⟩)]
abbrev f45r2 : Pc := .reg f45o2 [4, 6, 23] []
abbrev f45o3 : List (Nat × Pop) := [
  (0, ⟨(some 24), .build [(.t (.i .i64 0)), (.t (.i .i64 0)), (.t (.i .i64 0)), (.t (.i .i64 0))] [], none⟩),
  (1, ⟨none, .store 4 (.tmp 4) (.tmp 24), none⟩),
  (2, ⟨(some 5), .mv (.c (.t (.b false))), none⟩)]
abbrev f45r3 : Pc := .reg f45o3 [4, 5] []
abbrev f45o4 : List (Nat × Pop) := [
  (0, ⟨(some 25), .mv (.tmp 6), none⟩),
  (1, ⟨(some 26), .call 80 [(.tmp 25), (.c (.t (.i .i64 0)))], none⟩),
  (2, ⟨(some 27), .mv (.tmp 6), none⟩),
  (3, ⟨(some 28), .call 80 [(.tmp 27), (.c (.t (.i .i64 1)))], none⟩),
  (4, ⟨(some 8), .mv (.tmp 26), none⟩),
  (5, ⟨(some 9), .mv (.tmp 28), none⟩)]
abbrev f45r4 : Pc := .reg f45o4 [4, 6, 8, 9] []
abbrev f45o5 : List (Nat × Pop) := [
  (0, ⟨(some 10), .mv (.c (.t (.i .i64 65536))), none⟩)]
abbrev f45r5 : Pc := .reg f45o5 [4, 6, 8, 9, 10] []
abbrev f45o6 : List (Nat × Pop) := [
  (0, ⟨(some 29), .mv (.tmp 9), none⟩),
  (1, ⟨(some 30), .bin .geq (.tmp 29) (.c (.t (.i .i64 0))), none⟩)]
abbrev f45r6 : Pc := .reg f45o6 [4, 6, 8, 9, 10, 30] []
abbrev f45o7 : List (Nat × Pop) := [
  (0, ⟨(some 31), .mv (.tmp 6), none⟩),
  (1, ⟨(some 32), .mv (.tmp 8), none⟩),
  (2, ⟨(some 33), .ixS 1 (.tmp 31) (.tmp 32), none⟩),
  (3, ⟨(some 34), .load false 1 (.tmp 33), none⟩),
  (4, ⟨(some 35), .mv (.tmp 6), none⟩),
  (5, ⟨(some 36), .mv (.tmp 9), none⟩),
  (6, ⟨(some 37), .ixS 1 (.tmp 35) (.tmp 36), none⟩),
  (7, ⟨(some 38), .load false 1 (.tmp 37), none⟩),
  (8, ⟨(some 39), .callq 81 [(.tmp 34), (.tmp 38)], none⟩),
  (9, ⟨(some 10), .mv (.tmp 39), none⟩)]
abbrev f45r7 : Pc := .reg f45o7 [4, 8, 9, 10] []
abbrev f45o8 : List (Nat × Pop) := [
  (0, ⟨(some 40), .mv (.tmp 8), none⟩),
  (1, ⟨(some 41), .mv (.tmp 9), none⟩),
  (2, ⟨(some 42), .mv (.tmp 10), none⟩),
  (3, ⟨(some 43), .mv (.tmp 10), none⟩),
  (4, ⟨(some 44), .bin .sub (.c (.t (.i .i64 65536))) (.tmp 43), none⟩),
  (5, ⟨(some 45), .build [(.t (.i .i64 0)), (.t (.i .i64 0)), (.t (.i .i64 0)), (.t (.i .i64 0))] [(0, 1, (.tmp 40)), (1, 1, (.tmp 41)), (2, 1, (.tmp 42)), (3, 1, (.tmp 44))], none⟩),
  (6, ⟨none, .store 4 (.tmp 4) (.tmp 45), none⟩),
  (7, ⟨(some 5), .mv (.c (.t (.b true))), none⟩)]
abbrev f45r8 : Pc := .reg f45o8 [4, 5] []
abbrev f45b : Pc := (.seq f45r0 (.seq f45r1 (.seq (.seq f45r2 (.cond (.tmp 23) (.seq f45r3 .ret) .skip)) (.seq f45r4 (.seq f45r5 (.seq (.seq f45r6 (.cond (.tmp 30) f45r7 .skip)) (.seq f45r8 .ret)))))))
abbrev f45 : Pfn := ⟨2, 46, [.cell 4 true 4, .tmp 5], f45b⟩
def f45K : Array (List Nat) := #[[0, 1, 4], [4, 6, 7], [4, 6, 23], [4, 5], [4, 6, 8, 9], [4, 6, 8, 9, 10], [4, 6, 8, 9, 10, 30], [4, 8, 9, 10], [4, 5]]
def f45H : Array (List Nat) := #[[], [], [], [], [], [], [], [], []]
def f45A : Ann := ⟨fun r => f45K.getD r [], fun r => f45H.getD r [], fun r i => ([] : List (Nat × Nat)).contains (r, i)⟩
theorem f45C : compF Go.Proofs.Tryz.prog f45A 45 = some f45 := by kernel_rfl

/-- switchboard/switchboardref14.Slot -/
abbrev f46o0 : List (Nat × Pop) := [
  (0, ⟨(some 10), .mv (.c (.t (.i .i64 0))), none⟩)]
abbrev f46r0 : Pc := .reg f46o0 [0, 1, 2, 3, 4] []
abbrev f46o1 : List (Nat × Pop) := [
  (0, ⟨(some 13), .mv (.tmp 0), none⟩),
  (1, ⟨(some 14), .mv (.tmp 3), none⟩),
  (2, ⟨(some 15), .mv (.tmp 4), none⟩),
  (3, ⟨(some 16), .ixS 2 (.tmp 13) (.tmp 14), none⟩),
  (4, ⟨(some 17), .ixA 2 1 (.tmp 16) (.tmp 15), none⟩),
  (5, ⟨(some 18), .load false 1 (.tmp 17), none⟩),
  (6, ⟨(some 11), .mv (.tmp 18), none⟩)]
abbrev f46r1 : Pc := .reg f46o1 [0, 1, 2, 3, 4, 11] []
abbrev f46o2 : List (Nat × Pop) := [
  (0, ⟨(some 19), .mv (.tmp 0), none⟩),
  (1, ⟨(some 20), .mv (.tmp 3), none⟩),
  (2, ⟨(some 21), .mv (.tmp 4), none⟩),
  (3, ⟨(some 22), .mv (.tmp 11), none⟩),
  (4, ⟨(some 23), .call 82 [(.tmp 19), (.tmp 20), (.tmp 21), (.tmp 22)], none⟩),
  (5, ⟨(some 12), .mv (.tmp 23), none⟩)]
abbrev f46r2 : Pc := .reg f46o2 [1, 2, 11, 12] []
abbrev f46o3 : List (Nat × Pop) := [
  (0, ⟨(some 24), .mv (.tmp 11), none⟩),
  (1, ⟨(some 25), .bin .lss (.tmp 24) (.c (.t (.i .i64 0))), none⟩),
  (2, ⟨(some 26), .mv (.tmp 25), none⟩),
  (3, ⟨(some 27), .mv (.tmp 11), (some (26, false))⟩),
  (4, ⟨(some 28), .mv (.tmp 1), (some (26, false))⟩),
  (5, ⟨(some 29), .bin .geq (.tmp 27) (.tmp 28), (some (26, false))⟩),
  (6, ⟨(some 30), .pick (.tmp 26) (.c (.t (.b true))) (.tmp 29), none⟩),
  (7, ⟨(some 31), .mv (.tmp 30), none⟩),
  (8, ⟨(some 32), .mv (.tmp 12), (some (31, false))⟩),
  (9, ⟨(some 33), .mv (.tmp 2), (some (31, false))⟩),
  (10, ⟨(some 34), .bin .geq (.tmp 32) (.tmp 33), (some (31, false))⟩),
  (11, ⟨(some 35), .pick (.tmp 31) (.c (.t (.b true))) (.tmp 34), none⟩)]
abbrev f46r3 : Pc := .reg f46o3 [12, 35] []
abbrev f46o4 : List (Nat × Pop) := [
  (0, ⟨(some 10), .mv (.c (.t (.i .i64 (-1)))), none⟩)]
abbrev f46r4 : Pc := .reg f46o4 [10] []
abbrev f46o5 : List (Nat × Pop) := [
  (0, ⟨(some 36), .mv (.tmp 12), none⟩),
  (1, ⟨(some 10), .mv (.tmp 36), none⟩)]
abbrev f46r5 : Pc := .reg f46o5 [10] []
abbrev f46b : Pc := (.seq f46r0 (.seq f46r1 (.seq f46r2 (.seq (.seq f46r3 (.cond (.tmp 35) (.seq f46r4 .ret) .skip)) (.seq f46r5 .ret)))))
abbrev f46 : Pfn := ⟨5, 37, [.tmp 10], f46b⟩
def f46K : Array (List Nat) := #[[0, 1, 2, 3, 4], [0, 1, 2, 3, 4, 11], [1, 2, 11, 12], [12, 35], [10], [10]]
def f46H : Array (List Nat) := #[[], [], [], [], [], []]
def f46A : Ann := ⟨fun r => f46K.getD r [], fun r => f46H.getD r [], fun r i => ([] : List (Nat × Nat)).contains (r, i)⟩
theorem f46C : compF Go.Proofs.Tryz.prog f46A 46 = some f46 := by kernel_rfl

/-- switchboard/switchboardref02.Add -/
abbrev f47o0 : List (Nat × Pop) := [
  (0, ⟨(some 4), .nilv 3 1, none⟩)]
abbrev f47r0 : Pc := .reg f47o0 [0, 1] [4, 5, 27]
abbrev f47o1 : List (Nat × Pop) := [
  (0, ⟨(some 5), .nilv 3 1, none⟩)]
abbrev f47r1 : Pc := .reg f47o1 [0, 1, 5] []
abbrev f47o2 : List (Nat × Pop) := [
  (0, ⟨(some 6), .mv (.c (.t (.i .i64 0))), none⟩)]
abbrev f47r2 : Pc := .reg f47o2 [0, 1, 5, 6] []
abbrev f47o3 : List (Nat × Pop) := [
  (0, ⟨(some 7), .mv (.tmp 6), none⟩),
  (1, ⟨(some 8), .mv (.tmp 0), none⟩),
  (2, ⟨(some 9), .lenL (.tmp 8), none⟩),
  (3, ⟨(some 10), .bin .lss (.tmp 7) (.tmp 9), none⟩)]
abbrev f47r3 : Pc := .reg f47o3 [0, 1, 5, 6, 10] []
abbrev f47o5 : List (Nat × Pop) := [
  (0, ⟨(some 13), .mv (.tmp 5), none⟩),
  (1, ⟨(some 14), .mv (.tmp 0), none⟩),
  (2, ⟨(some 15), .mv (.tmp 6), none⟩),
  (3, ⟨(some 16), .ixS 1 (.tmp 14) (.tmp 15), none⟩),
  (4, ⟨(some 17), .load false 1 (.tmp 16), none⟩),
  (5, ⟨(some 18), .callq 83 [(.tmp 17)], none⟩),
  (6, ⟨(some 19), .mv (.tmp 1), none⟩),
  (7, ⟨(some 20), .mv (.tmp 6), none⟩),
  (8, ⟨(some 21), .ixS 1 (.tmp 19) (.tmp 20), none⟩),
  (9, ⟨(some 22), .load false 1 (.tmp 21), none⟩),
  (10, ⟨(some 23), .callq 83 [(.tmp 22)], none⟩),
  (11, ⟨(some 24), .bin .add (.tmp 18) (.tmp 23), none⟩),
  (12, ⟨(some 25), .callq 83 [(.tmp 24)], none⟩),
  (13, ⟨(some 26), .bslT 1 [(.tmp 25)], none⟩),
  (14, ⟨(some 27), .app 3 1 8 (.tmp 13) (.tmp 26), none⟩),
  (15, ⟨(some 5), .mv (.tmp 27), none⟩)]
abbrev f47r5 : Pc := .reg f47o5 [0, 1, 5, 6] []
abbrev f47o4 : List (Nat × Pop) := [
  (0, ⟨(some 11), .mv (.tmp 6), none⟩),
  (1, ⟨(some 12), .bin .add (.tmp 11) (.c (.t (.i .i64 1))), none⟩),
  (2, ⟨(some 6), .mv (.tmp 12), none⟩)]
abbrev f47r4 : Pc := .reg f47o4 [0, 1, 5, 6] []
def f47l0 : Pc := (.seq (.seq f47r3 (.cond (.tmp 10) .skip (.exit 0))) (.seq (.block 1 f47r5) f47r4))
theorem f47l0e (C : Cfg) (s : St) : evL C f47l0 s = evL C (.seq (.seq f47r3 (.cond (.tmp 10) .skip (.exit 0))) (.seq (.block 1 f47r5) f47r4)) s := rfl
abbrev f47o6 : List (Nat × Pop) := [
  (0, ⟨(some 28), .mv (.tmp 5), none⟩),
  (1, ⟨(some 4), .mv (.tmp 28), none⟩)]
abbrev f47r6 : Pc := .reg f47o6 [4] []
abbrev f47b : Pc := (.seq f47r0 (.seq f47r1 (.seq (.seq f47r2 (.block 0 (.loop f47l0))) (.seq f47r6 .ret))))
abbrev f47 : Pfn := ⟨2, 29, [.tmp 4], f47b⟩
def f47K : Array (List Nat) := #[[0, 1], [0, 1, 5], [0, 1, 5, 6], [0, 1, 5, 6, 10], [0, 1, 5, 6], [0, 1, 5, 6], [4]]
def f47H : Array (List Nat) := #[[4, 5, 27], [], [], [], [], [], []]
def f47A : Ann := ⟨fun r => f47K.getD r [], fun r => f47H.getD r [], fun r i => ([] : List (Nat × Nat)).contains (r, i)⟩
theorem f47C : compF Go.Proofs.Tryz.prog f47A 47 = some f47 := by kernel_rfl

/-- switchboard/switchboardref02.Scale -/
abbrev f48o0 : List (Nat × Pop) := [
  (0, ⟨(some 4), .nilv 3 1, none⟩)]
abbrev f48r0 : Pc := .reg f48o0 [0, 1] [4, 5, 21]
abbrev f48o1 : List (Nat × Pop) := [
  (0, ⟨(some 5), .nilv 3 1, none⟩)]
abbrev f48r1 : Pc := .reg f48o1 [0, 1, 5] []
abbrev f48o2 : List (Nat × Pop) := [
  (0, ⟨(some 6), .mv (.c (.t (.i .i64 0))), none⟩)]
abbrev f48r2 : Pc := .reg f48o2 [0, 1, 5, 6] []
abbrev f48o3 : List (Nat × Pop) := [
  (0, ⟨(some 7), .mv (.tmp 6), none⟩),
  (1, ⟨(some 8), .mv (.tmp 0), none⟩),
  (2, ⟨(some 9), .lenL (.tmp 8), none⟩),
  (3, ⟨(some 10), .bin .lss (.tmp 7) (.tmp 9), none⟩)]
abbrev f48r3 : Pc := .reg f48o3 [0, 1, 5, 6, 10] []
abbrev f48o5 : List (Nat × Pop) := [
  (0, ⟨(some 13), .mv (.tmp 5), none⟩),
  (1, ⟨(some 14), .mv (.tmp 0), none⟩),
  (2, ⟨(some 15), .mv (.tmp 6), none⟩),
  (3, ⟨(some 16), .ixS 1 (.tmp 14) (.tmp 15), none⟩),
  (4, ⟨(some 17), .load false 1 (.tmp 16), none⟩),
  (5, ⟨(some 18), .mv (.tmp 1), none⟩),
  (6, ⟨(some 19), .call 84 [(.tmp 17), (.tmp 18)], none⟩),
  (7, ⟨(some 20), .bslT 1 [(.tmp 19)], none⟩),
  (8, ⟨(some 21), .app 3 1 8 (.tmp 13) (.tmp 20), none⟩),
  (9, ⟨(some 5), .mv (.tmp 21), none⟩)]
abbrev f48r5 : Pc := .reg f48o5 [0, 1, 5, 6] []
abbrev f48o4 : List (Nat × Pop) := [
  (0, ⟨(some 11), .mv (.tmp 6), none⟩),
  (1, ⟨(some 12), .bin .add (.tmp 11) (.c (.t (.i .i64 1))), none⟩),
  (2, ⟨(some 6), .mv (.tmp 12), none⟩)]
abbrev f48r4 : Pc := .reg f48o4 [0, 1, 5, 6] []
def f48l0 : Pc := (.seq (.seq f48r3 (.cond (.tmp 10) .skip (.exit 0))) (.seq (.block 1 f48r5) f48r4))
theorem f48l0e (C : Cfg) (s : St) : evL C f48l0 s = evL C (.seq (.seq f48r3 (.cond (.tmp 10) .skip (.exit 0))) (.seq (.block 1 f48r5) f48r4)) s := rfl
abbrev f48o6 : List (Nat × Pop) := [
  (0, ⟨(some 22), .mv (.tmp 5), none⟩),
  (1, ⟨(some 4), .mv (.tmp 22), none⟩)]
abbrev f48r6 : Pc := .reg f48o6 [4] []
abbrev f48b : Pc := (.seq f48r0 (.seq f48r1 (.seq (.seq f48r2 (.block 0 (.loop f48l0))) (.seq f48r6 .ret))))
abbrev f48 : Pfn := ⟨2, 23, [.tmp 4], f48b⟩
def f48K : Array (List Nat) := #[[0, 1], [0, 1, 5], [0, 1, 5, 6], [0, 1, 5, 6, 10], [0, 1, 5, 6], [0, 1, 5, 6], [4]]
def f48H : Array (List Nat) := #[[4, 5, 21], [], [], [], [], [], []]
def f48A : Ann := ⟨fun r => f48K.getD r [], fun r => f48H.getD r [], fun r i => ([] : List (Nat × Nat)).contains (r, i)⟩
theorem f48C : compF Go.Proofs.Tryz.prog f48A 48 = some f48 := by kernel_rfl

/-- switchboard/switchboardref11.Run -/
abbrev f49o0 : List (Nat × Pop) := [
  (0, ⟨(some 2), .box 67 2 (.tmp 0), none⟩),
  (1, ⟨(some 4), .nilv 3 1, none⟩)]
abbrev f49r0 : Pc := .reg f49o0 [1, 2] [4]
abbrev f49o1 : List (Nat × Pop) := [
  (0, ⟨(some 10), .fad 0 (.tmp 2), none⟩),
  (1, ⟨(some 11), .load false 1 (.tmp 10), none⟩),
  (2, ⟨(some 12), .mv (.tmp 1), none⟩),
  (3, ⟨(some 13), .call 79 [(.tmp 11), (.tmp 12)], none⟩),
  (4, ⟨(some 9), .mv (.tmp 13), none⟩),
  (5, ⟨(some 14), .ext 0 (.tmp 9), none⟩),
  (6, ⟨(some 15), .ext 1 (.tmp 9), none⟩),
  (7, ⟨(some 5), .mv (.tmp 14), none⟩),
  (8, ⟨(some 6), .mv (.tmp 15), none⟩)]
abbrev f49r1 : Pc := .reg f49o1 [2, 5] []
abbrev f49o2 : List (Nat × Pop) := [
  (0, ⟨(some 17), .fad 1 (.tmp 2), none⟩),
  (1, ⟨(some 18), .load false 1 (.tmp 17), none⟩),
  (2, ⟨(some 19), .mv (.tmp 5), none⟩),
  (3, ⟨(some 20), .callq 85 [(.tmp 19)], none⟩),
  (4, ⟨(some 21), .callq 79 [(.tmp 18), (.tmp 20)], none⟩),
  (5, ⟨(some 16), .mv (.tmp 21), none⟩),
  (6, ⟨(some 22), .ext 0 (.tmp 16), none⟩),
  (7, ⟨(some 23), .ext 1 (.tmp 16), none⟩),
  (8, ⟨(some 7), .mv (.tmp 22), none⟩),
  (9, ⟨(some 8), .mv (.tmp 23), none⟩)]
abbrev f49r2 : Pc := .reg f49o2 [7] [2]
abbrev f49o3 : List (Nat × Pop) := [
  (0, ⟨(some 24), .mv (.tmp 7), none⟩),
  (1, ⟨(some 4), .mv (.tmp 24), none⟩)]
abbrev f49r3 : Pc := .reg f49o3 [4] []
abbrev f49b : Pc := (.seq f49r0 (.seq f49r1 (.seq f49r2 (.seq f49r3 .ret))))
abbrev f49 : Pfn := ⟨2, 25, [.tmp 4], f49b⟩
def f49K : Array (List Nat) := #[[1, 2], [2, 5], [7], [4]]
def f49H : Array (List Nat) := #[[4], [], [2], []]
def f49A : Ann := ⟨fun r => f49K.getD r [], fun r => f49H.getD r [], fun r i => ([] : List (Nat × Nat)).contains (r, i)⟩
theorem f49C : compF Go.Proofs.Tryz.prog f49A 49 = some f49 := by kernel_rfl

/-- switchboard/bag.Take -/
abbrev f50o0 : List (Nat × Pop) := [
  (0, ⟨(some 4), .mv (.c (.t (.s []))), none⟩),
  (1, ⟨(some 5), .nilv 9 1, none⟩),
  (2, ⟨(some 6), .mv (.c (.t (.b false))), none⟩)]
abbrev f50r0 : Pc := .reg f50o0 [0, 1] [5, 16, 22]
abbrev f50o1 : List (Nat × Pop) := [
  (0, ⟨(some 7), .mv (.tmp 1), none⟩),
  (1, ⟨(some 8), .bin .lss (.tmp 7) (.c (.t (.i .i64 0))), none⟩),
  (2, ⟨(some 9), .mv (.tmp 8), none⟩),
  (3, ⟨(some 10), .mv (.tmp 1), (some (9, false))⟩),
  (4, ⟨(some 11), .mv (.tmp 0), (some (9, false))⟩),
  (5, ⟨(some 12), .lenL (.tmp 11), (some (9, false))⟩),
  (6, ⟨(some 13), .bin .geq (.tmp 10) (.tmp 12), (some (9, false))⟩),
  (7, ⟨(some 14), .pick (.tmp 9) (.c (.t (.b true))) (.tmp 13), none⟩)]
abbrev f50r1 : Pc := .reg f50o1 [0, 1, 14] []
abbrev f50o2 : List (Nat × Pop) := [
  (0, ⟨(some 15), .mv (.tmp 0), none⟩),
  (1, ⟨(some 16), .call 41 [(.tmp 15)], none⟩),
  (2, ⟨(some 4), .mv (.c (.t (.s []))), none⟩),
  (3, ⟨(some 5), .mv (.tmp 16), none⟩),
  (4, ⟨(some 6), .mv (.c (.t (.b false))), none⟩)]
abbrev f50r2 : Pc := .reg f50o2 [4, 5, 6] []
abbrev f50o3 : List (Nat × Pop) := [
  (0, ⟨(some 17), .mv (.tmp 0), none⟩),
  (1, ⟨(some 18), .mv (.tmp 1), none⟩),
  (2, ⟨(some 19), .ixS 1 (.tmp 17) (.tmp 18), none⟩),
  (3, ⟨(some 20), .loadB false 1 (.tmp 19), none⟩),
  (4, ⟨(some 21), .mv (.tmp 0), none⟩),
  (5, ⟨(some 22), .callo 41 [(.tmp 21)], none⟩),
  (6, ⟨(some 23), .mv (.tmp 1), none⟩),
  (7, ⟨(some 24), .mv (.tmp 1), none⟩),
  (8, ⟨(some 25), .bin .add (.tmp 24) (.c (.t (.i .i64 1))), none⟩),
  (9, ⟨(some 26), .callR 86 [(.tmp 22), (.tmp 23), (.tmp 25)], none⟩),
  (10, ⟨(some 4), .mv (.tmp 20), none⟩),
  (11, ⟨(some 5), .mv (.tmp 26), none⟩),
  (12, ⟨(some 6), .mv (.c (.t (.b true))), none⟩)]
abbrev f50r3 : Pc := .reg f50o3 [4, 5, 6] []
abbrev f50b : Pc := (.seq f50r0 (.seq (.seq f50r1 (.cond (.tmp 14) (.seq f50r2 .ret) .skip)) (.seq f50r3 .ret)))
abbrev f50 : Pfn := ⟨2, 27, [.tmp 4, .tmp 5, .tmp 6], f50b⟩
def f50K : Array (List Nat) := #[[0, 1], [0, 1, 14], [4, 5, 6], [4, 5, 6]]
def f50H : Array (List Nat) := #[[5, 16, 22], [], [], []]
def f50A : Ann := ⟨fun r => f50K.getD r [], fun r => f50H.getD r [], fun r i => ([(3, 5), (3, 1009), (3, 3)] : List (Nat × Nat)).contains (r, i)⟩
theorem f50C : compF Go.Proofs.Tryz.prog f50A 50 = some f50 := by kernel_rfl

/-- switchboard/wire.Take -/
abbrev f51o0 : List (Nat × Pop) := [
  (0, ⟨(some 2), .alloc 44 [(.t (.i .i64 0)), (.t (.i .i64 0)), (.t (.i .i64 0)), (.t (.i .i64 0)), (.t (.i .i64 0)), (.t (.i .i64 0)), (.t (.i .i64 0)), (.t (.i .i64 0)), (.t (.i .i64 0)), (.t (.i .i64 0)), .nl], none⟩),
  (1, ⟨(some 3), .mv (.c (.t (.i .i64 0))), none⟩)]
abbrev f51r0 : Pc := .reg f51o0 [0, 2] []
abbrev f51o1 : List (Nat × Pop) := [
  (0, ⟨(some 10), .mv (.tmp 0), none⟩),
  (1, ⟨(some 11), .lenS (.tmp 10), none⟩),
  (2, ⟨(some 12), .bin .lss (.tmp 11) (.c (.t (.i .i64 52))), none⟩),
  (3, ⟨(some 13), .mv (.tmp 12), none⟩),
  (4, ⟨(some 14), .mv (.tmp 0), (some (13, false))⟩),
  (5, ⟨(some 15), .call 87 [(.tmp 14), (.c (.t (.i .i64 0)))], (some (13, false))⟩),
  (6, ⟨(some 16), .mv (.tmp 0), (some (13, false))⟩),
  (7, ⟨(some 17), .lenS (.tmp 16), (some (13, false))⟩),
  (8, ⟨(some 18), .bin .sub (.tmp 17) (.c (.t (.i .i64 4))), (some (13, false))⟩),
  (9, ⟨(some 19), .bin .neq (.tmp 15) (.tmp 18), (some (13, false))⟩),
  (10, ⟨(some 20), .pick (.tmp 13) (.c (.t (.b true))) (.tmp 19), none⟩),
  (11, ⟨(some 21), .mv (.tmp 20), none⟩),
  (12, ⟨(some 22), .mv (.tmp 0), (some (21, false))⟩),
  (13, ⟨(some 23), .lenS (.tmp 22), (some (21, false))⟩),
  (14, ⟨(some 24), .bin .rem (.tmp 23) (.c (.t (.i .i64 4))), (some (21, false))⟩),
  (15, ⟨(some 25), .bin .neq (.tmp 24) (.c (.t (.i .i64 0))), (some (21, false))⟩),
  (16, ⟨(some 26), .pick (.tmp 21) (.c (.t (.b true))) (.tmp 25), none⟩)]
abbrev f51r1 : Pc := .reg f51o1 [0, 2, 26] []
abbrev f51o2 : List (Nat × Pop) := [
  (0, ⟨(some 27), .build [(.t (.i .i64 0)), (.t (.i .i64 0)), (.t (.i .i64 0)), (.t (.i .i64 0)), (.t (.i .i64 0)), (.t (.i .i64 0)), (.t (.i .i64 0)), (.t (.i .i64 0)), (.t (.i .i64 0)), (.t (.i .i64 0)), .nl] [], none⟩),
  (1, ⟨none, .store 11 (.tmp 2) (.tmp 27), none⟩),
  (2, ⟨(some 3), .mv (.c (.t (.i .i64 2))), none⟩)]
abbrev f51r2 : Pc := .reg f51o2 [2, 3] []
abbrev f51o3 : List (Nat × Pop) := [
  (0, ⟨(some 28), .mv (.tmp 0), none⟩),
  (1, ⟨(some 29), .lenS (.tmp 28), none⟩),
  (2, ⟨(some 30), .bin .quo (.tmp 29) (.c (.t (.i .i64 4))), none⟩),
  (3, ⟨(some 31), .bin .sub (.tmp 30) (.c (.t (.i .i64 1))), none⟩),
  (4, ⟨(some 4), .mv (.tmp 31), none⟩)]
abbrev f51r3 : Pc := .reg f51o3 [0, 2, 4] []
abbrev f51o4 : List (Nat × Pop) := [
  (0, ⟨(some 32), .mv (.tmp 0), none⟩),
  (1, ⟨(some 33), .mv (.tmp 4), none⟩),
  (2, ⟨(some 34), .callq 87 [(.tmp 32), (.tmp 33)], none⟩),
  (3, ⟨(some 35), .mv (.tmp 0), none⟩),
  (4, ⟨(some 36), .mv (.tmp 4), none⟩),
  (5, ⟨(some 37), .bin .mul (.c (.t (.i .i64 4))) (.tmp 36), none⟩),
  (6, ⟨(some 38), .slS (.tmp 35) (some (.c (.t (.i .i64 4)))) (some (.tmp 37)), none⟩),
  (7, ⟨(some 39), .callq 88 [(.tmp 38)], none⟩),
  (8, ⟨(some 40), .bin .neq (.tmp 34) (.tmp 39), none⟩)]
abbrev f51r4 : Pc := .reg f51o4 [0, 2, 4, 40] []
abbrev f51o5 : List (Nat × Pop) := [
  (0, ⟨(some 41), .build [(.t (.i .i64 0)), (.t (.i .i64 0)), (.t (.i .i64 0)), (.t (.i .i64 0)), (.t (.i .i64 0)), (.t (.i .i64 0)), (.t (.i .i64 0)), (.t (.i .i64 0)), (.t (.i .i64 0)), (.t (.i .i64 0)), .nl] [], none⟩),
  (1, ⟨none, .store 11 (.tmp 2) (.tmp 41), none⟩),
  (2, ⟨(some 3), .mv (.c (.t (.i .i64 9))), none⟩)]
abbrev f51r5 : Pc := .reg f51o5 [2, 3] []
abbrev f51o6 : List (Nat × Pop) := [
  (0, ⟨(some 42), .mv (.tmp 4), none⟩),
  (1, ⟨(some 43), .mks 3 1 8 [(.i .i64 0)] (.tmp 42) (.tmp 42), none⟩),
  (2, ⟨(some 5), .mv (.tmp 43), none⟩)]
abbrev f51r6 : Pc := .reg f51o6 [0, 2, 5] []
abbrev f51o7 : List (Nat × Pop) := [
  (0, ⟨(some 44), .mv (.tmp 5), none⟩),
  (1, ⟨(some 45), .lenL (.tmp 44), none⟩),
  (2, ⟨(some 46), .mv (.c (.t (.i .i64 0))), none⟩)]
abbrev f51r7 : Pc := .reg f51o7 [0, 2, 5, 45, 46] []
abbrev f51o8 : List (Nat × Pop) := [
  (0, ⟨(some 47), .bin .lss (.tmp 46) (.tmp 45), none⟩)]
abbrev f51r8 : Pc := .reg f51o8 [0, 2, 5, 45, 46, 47] []
abbrev f51o9 : List (Nat × Pop) := [
  (0, ⟨(some 48), .mv (.tmp 46), none⟩),
  (1, ⟨(some 6), .mv (.tmp 48), none⟩)]
abbrev f51r9 : Pc := .reg f51o9 [0, 2, 5, 6, 45, 46] []
abbrev f51o10 : List (Nat × Pop) := [
  (0, ⟨(some 49), .mv (.tmp 5), none⟩),
  (1, ⟨(some 50), .mv (.tmp 6), none⟩),
  (2, ⟨(some 51), .mv (.tmp 0), none⟩),
  (3, ⟨(some 52), .mv (.tmp 6), none⟩),
  (4, ⟨(some 53), .call 87 [(.tmp 51), (.tmp 52)], none⟩),
  (5, ⟨(some 54), .ixS 1 (.tmp 49) (.tmp 50), none⟩),
  (6, ⟨none, .store 1 (.tmp 54) (.tmp 53), none⟩)]
abbrev f51r10 : Pc := .reg f51o10 [0, 2, 5, 45, 46] []
abbrev f51o11 : List (Nat × Pop) := [
  (0, ⟨(some 55), .bin .add (.tmp 46) (.c (.t (.i .i64 1))), none⟩),
  (1, ⟨(some 46), .mv (.tmp 55), none⟩)]
abbrev f51r11 : Pc := .reg f51o11 [0, 2, 5, 45, 46] []
def f51l0 : Pc := (.seq f51r8 (.seq (.cond (.tmp 47) .skip (.exit 0)) (.seq (.block 1 (.seq f51r9 f51r10)) f51r11)))
theorem f51l0e (C : Cfg) (s : St) : evL C f51l0 s = evL C (.seq f51r8 (.seq (.cond (.tmp 47) .skip (.exit 0)) (.seq (.block 1 (.seq f51r9 f51r10)) f51r11))) s := rfl
abbrev f51o12 : List (Nat × Pop) := [
  (0, ⟨(some 56), .mv (.tmp 5), none⟩),
  (1, ⟨(some 57), .ixS 1 (.tmp 56) (.c (.t (.i .i64 1))), none⟩),
  (2, ⟨(some 58), .load false 1 (.tmp 57), none⟩),
  (3, ⟨(some 59), .mv (.tmp 5), none⟩),
  (4, ⟨(some 60), .ixS 1 (.tmp 59) (.c (.t (.i .i64 2))), none⟩),
  (5, ⟨(some 61), .load false 1 (.tmp 60), none⟩),
  (6, ⟨(some 62), .mv (.tmp 5), none⟩),
  (7, ⟨(some 63), .ixS 1 (.tmp 62) (.c (.t (.i .i64 3))), none⟩),
  (8, ⟨(some 64), .load false 1 (.tmp 63), none⟩),
  (9, ⟨(some 65), .mv (.tmp 5), none⟩),
  (10, ⟨(some 66), .ixS 1 (.tmp 65) (.c (.t (.i .i64 4))), none⟩),
  (11, ⟨(some 67), .load false 1 (.tmp 66), none⟩),
  (12, ⟨(some 68), .mv (.tmp 5), none⟩),
  (13, ⟨(some 69), .ixS 1 (.tmp 68) (.c (.t (.i .i64 5))), none⟩),
  (14, ⟨(some 70), .load false 1 (.tmp 69), none⟩),
  (15, ⟨(some 71), .mv (.tmp 5), none⟩),
  (16, ⟨(some 72), .ixS 1 (.tmp 71) (.c (.t (.i .i64 6))), none⟩),
  (17, ⟨(some 73), .load false 1 (.tmp 72), none⟩),
  (18, ⟨(some 74), .mv (.tmp 5), none⟩),
  (19, ⟨(some 75), .ixS 1 (.tmp 74) (.c (.t (.i .i64 7))), none⟩),
  (20, ⟨(some 76), .load false 1 (.tmp 75), none⟩),
  (21, ⟨(some 77), .mv (.tmp 5), none⟩),
  (22, ⟨(some 78), .ixS 1 (.tmp 77) (.c (.t (.i .i64 8))), none⟩),
  (23, ⟨(some 79), .load false 1 (.tmp 78), none⟩),
  (24, ⟨(some 80), .mv (.tmp 5), none⟩),
  (25, ⟨(some 81), .ixS 1 (.tmp 80) (.c (.t (.i .i64 9))), none⟩),
  (26, ⟨(some 82), .load false 1 (.tmp 81), none⟩),
  (27, ⟨(some 83), .mv (.tmp 5), none⟩),
  (28, ⟨(some 84), .ixS 1 (.tmp 83) (.c (.t (.i .i64 10))), none⟩),
  (29, ⟨(some 85), .load false 1 (.tmp 84), none⟩),
  (30, ⟨(some 86), .build [(.t (.i .i64 0)), (.t (.i .i64 0)), (.t (.i .i64 0)), (.t (.i .i64 0)), (.t (.i .i64 0)), (.t (.i .i64 0)), (.t (.i .i64 0)), (.t (.i .i64 0)), (.t (.i .i64 0)), (.t (.i .i64 0)), .nl] [(0, 1, (.tmp 58)), (1, 1, (.tmp 61)), (2, 1, (.tmp 64)), (3, 1, (.tmp 67)), (4, 1, (.tmp 70)), (5, 1, (.tmp 73)), (6, 1, (.tmp 76)), (7, 1, (.tmp 79)), (8, 1, (.tmp 82)), (9, 1, (.tmp 85))], none⟩),
  (31, ⟨(some 7), .alloc 44 [(.t (.i .i64 0)), (.t (.i .i64 0)), (.t (.i .i64 0)), (.t (.i .i64 0)), (.t (.i .i64 0)), (.t (.i .i64 0)), (.t (.i .i64 0)), (.t (.i .i64 0)), (.t (.i .i64 0)), (.t (.i .i64 0)), .nl], none⟩),
  (32, ⟨none, .store 11 (.tmp 7) (.tmp 86), none⟩)]
abbrev f51r12 : Pc := .reg f51o12 [2, 5, 7] []
abbrev f51o13 : List (Nat × Pop) := [
  (0, ⟨(some 87), .mv (.tmp 5), none⟩),
  (1, ⟨(some 88), .sls 1 (.tmp 87) (some (.c (.t (.i .i64 12)))) none, none⟩),
  (2, ⟨(some 89), .lenL (.tmp 88), none⟩),
  (3, ⟨(some 90), .mv (.c (.t (.i .i64 0))), none⟩)]
abbrev f51r13 : Pc := .reg f51o13 [2, 5, 7, 88, 89, 90] []
abbrev f51o14 : List (Nat × Pop) := [
  (0, ⟨(some 91), .bin .lss (.tmp 90) (.tmp 89), none⟩)]
abbrev f51r14 : Pc := .reg f51o14 [2, 5, 7, 88, 89, 90, 91] []
abbrev f51o15 : List (Nat × Pop) := [
  (0, ⟨(some 92), .ixS 1 (.tmp 88) (.tmp 90), none⟩),
  (1, ⟨(some 93), .load false 1 (.tmp 92), none⟩),
  (2, ⟨(some 9), .mv (.tmp 93), none⟩)]
abbrev f51r15 : Pc := .reg f51o15 [2, 5, 7, 9, 88, 89, 90] []
abbrev f51o16 : List (Nat × Pop) := [
  (0, ⟨(some 94), .fad 10 (.tmp 7), none⟩),
  (1, ⟨(some 95), .load false 1 (.tmp 94), none⟩),
  (2, ⟨(some 96), .mv (.tmp 9), none⟩),
  (3, ⟨(some 97), .callq 89 [(.tmp 96)], none⟩),
  (4, ⟨(some 98), .bslF 1 [(.tmp 97)], none⟩),
  (5, ⟨(some 99), .app 3 1 8 (.tmp 95) (.tmp 98), none⟩),
  (6, ⟨(some 100), .fad 10 (.tmp 7), none⟩),
  (7, ⟨none, .store 1 (.tmp 100) (.tmp 99), none⟩)]
abbrev f51r16 : Pc := .reg f51o16 [2, 5, 7, 88, 89, 90] []
abbrev f51o17 : List (Nat × Pop) := [
  (0, ⟨(some 101), .bin .add (.tmp 90) (.c (.t (.i .i64 1))), none⟩),
  (1, ⟨(some 90), .mv (.tmp 101), none⟩)]
abbrev f51r17 : Pc := .reg f51o17 [2, 5, 7, 88, 89, 90] []
def f51l1 : Pc := (.seq f51r14 (.seq (.cond (.tmp 91) .skip (.exit 2)) (.seq (.block 3 (.seq f51r15 f51r16)) f51r17)))
theorem f51l1e (C : Cfg) (s : St) : evL C f51l1 s = evL C (.seq f51r14 (.seq (.cond (.tmp 91) .skip (.exit 2)) (.seq (.block 3 (.seq f51r15 f51r16)) f51r17))) s := rfl
abbrev f51o18 : List (Nat × Pop) := [
  (0, ⟨(some 102), .mv (.tmp 5), none⟩),
  (1, ⟨(some 103), .ixS 1 (.tmp 102) (.c (.t (.i .i64 11))), none⟩),
  (2, ⟨(some 104), .load false 1 (.tmp 103), none⟩),
  (3, ⟨(some 105), .fad 10 (.tmp 7), none⟩),
  (4, ⟨(some 106), .load false 1 (.tmp 105), none⟩),
  (5, ⟨(some 107), .lenL (.tmp 106), none⟩),
  (6, ⟨(some 108), .bin .neq (.tmp 104) (.tmp 107), none⟩),
  (7, ⟨(some 109), .mv (.tmp 108), none⟩),
  (8, ⟨(some 110), .load true 11 (.tmp 7), (some (109, false))⟩),
  (9, ⟨(some 111), .callq 90 [(.tmp 110)], (some (109, false))⟩),
  (10, ⟨(some 112), .un .not (.tmp 111), (some (109, false))⟩),
  (11, ⟨(some 113), .pick (.tmp 109) (.c (.t (.b true))) (.tmp 112), none⟩)]
abbrev f51r18 : Pc := .reg f51o18 [2, 7, 113] [43]
abbrev f51o19 : List (Nat × Pop) := [
  (0, ⟨(some 114), .build [(.t (.i .i64 0)), (.t (.i .i64 0)), (.t (.i .i64 0)), (.t (.i .i64 0)), (.t (.i .i64 0)), (.t (.i .i64 0)), (.t (.i .i64 0)), (.t (.i .i64 0)), (.t (.i .i64 0)), (.t (.i .i64 0)), .nl] [], none⟩),
  (1, ⟨none, .store 11 (.tmp 2) (.tmp 114), none⟩),
  (2, ⟨(some 3), .mv (.c (.t (.i .i64 2))), none⟩)]
abbrev f51r19 : Pc := .reg f51o19 [2, 3] [7]
abbrev f51o20 : List (Nat × Pop) := [
  (0, ⟨(some 115), .load true 11 (.tmp 7), none⟩),
  (1, ⟨none, .store 11 (.tmp 2) (.tmp 115), none⟩),
  (2, ⟨(some 3), .mv (.c (.t (.i .i64 0))), none⟩)]
abbrev f51r20 : Pc := .reg f51o20 [2, 3] [7]
abbrev f51b : Pc := (.seq f51r0 (.seq (.seq f51r1 (.cond (.tmp 26) (.seq f51r2 .ret) .skip)) (.seq f51r3 (.seq (.seq f51r4 (.cond (.tmp 40) (.seq f51r5 .ret) .skip)) (.seq f51r6 (.seq (.seq f51r7 (.block 0 (.loop f51l0))) (.seq f51r12 (.seq (.seq f51r13 (.block 2 (.loop f51l1))) (.seq (.seq f51r18 (.cond (.tmp 113) (.seq f51r19 .ret) .skip)) (.seq f51r20 .ret))))))))))
abbrev f51 : Pfn := ⟨1, 116, [.cell 2 true 11, .tmp 3], f51b⟩
def f51K : Array (List Nat) := #[[0, 2], [0, 2, 26], [2, 3], [0, 2, 4], [0, 2, 4, 40], [2, 3], [0, 2, 5], [0, 2, 5, 45, 46], [0, 2, 5, 45, 46, 47], [0, 2, 5, 6, 45, 46], [0, 2, 5, 45, 46], [0, 2, 5, 45, 46], [2, 5, 7], [2, 5, 7, 88, 89, 90], [2, 5, 7, 88, 89, 90, 91], [2, 5, 7, 9, 88, 89, 90], [2, 5, 7, 88, 89, 90], [2, 5, 7, 88, 89, 90], [2, 7, 113], [2, 3], [2, 3]]
def f51H : Array (List Nat) := #[[], [], [], [], [], [], [], [], [], [], [], [], [], [], [], [], [], [], [43], [7], [7]]
def f51A : Ann := ⟨fun r => f51K.getD r [], fun r => f51H.getD r [], fun r i => ([] : List (Nat × Nat)).contains (r, i)⟩
theorem f51C : compF Go.Proofs.Tryz.prog f51A 51 = some f51 := by kernel_rfl

/-- (*switchboard/fleet.Fleet).answer -/
abbrev f52o0 : List (Nat × Pop) := [
  (0, ⟨(some 3), .box 44 11 (.tmp 1), none⟩)]
abbrev f52r0 : Pc := .reg f52o0 [0, 3] []
abbrev f52o1 : List (Nat × Pop) := [
  (0, ⟨(some 5), .fad 0 (.tmp 3), none⟩),
  (1, ⟨(some 6), .load false 1 (.tmp 5), none⟩),
  (2, ⟨(some 7), .bin .neq (.tmp 6) (.c (.t (.i .i64 2))), none⟩),
  (3, ⟨(some 8), .mv (.tmp 7), none⟩),
  (4, ⟨(some 9), .fad 4 (.tmp 3), (some (8, false))⟩),
  (5, ⟨(some 10), .load false 1 (.tmp 9), (some (8, false))⟩),
  (6, ⟨(some 11), .bin .neq (.tmp 10) (.c (.t (.i .i64 1))), (some (8, false))⟩),
  (7, ⟨(some 12), .pick (.tmp 8) (.c (.t (.b true))) (.tmp 11), none⟩),
  (8, ⟨(some 13), .mv (.tmp 12), none⟩),
  (9, ⟨(some 14), .fad 5 (.tmp 3), (some (13, false))⟩),
  (10, ⟨(some 15), .load false 1 (.tmp 14), (some (13, false))⟩),
  (11, ⟨(some 16), .mv (.tmp 0), (some (13, false))⟩),
  (12, ⟨(some 17), .nchk (.tmp 16), (some (13, false))⟩),
  (13, ⟨(some 18), .fad 11 (.tmp 17), (some (13, false))⟩),
  (14, ⟨(some 19), .load false 1 (.tmp 18), (some (13, false))⟩),
  (15, ⟨(some 20), .bin .neq (.tmp 15) (.tmp 19), (some (13, false))⟩),
  (16, ⟨(some 21), .pick (.tmp 13) (.c (.t (.b true))) (.tmp 20), none⟩),
  (17, ⟨(some 22), .mv (.tmp 21), none⟩),
  (18, ⟨(some 23), .fad 10 (.tmp 3), (some (22, false))⟩),
  (19, ⟨(some 24), .load false 1 (.tmp 23), (some (22, false))⟩),
  (20, ⟨(some 25), .lenL (.tmp 24), (some (22, false))⟩),
  (21, ⟨(some 26), .mv (.tmp 0), (some (22, false))⟩),
  (22, ⟨(some 27), .nchk (.tmp 26), (some (22, false))⟩),
  (23, ⟨(some 28), .fad 0 (.tmp 27), (some (22, false))⟩),
  (24, ⟨(some 29), .fad 0 (.tmp 28), (some (22, false))⟩),
  (25, ⟨(some 30), .load false 1 (.tmp 29), (some (22, false))⟩),
  (26, ⟨(some 31), .bin .neq (.tmp 25) (.tmp 30), (some (22, false))⟩),
  (27, ⟨(some 32), .pick (.tmp 22) (.c (.t (.b true))) (.tmp 31), none⟩),
  (28, ⟨(some 33), .mv (.tmp 32), none⟩),
  (29, ⟨(some 34), .mv (.tmp 0), (some (33, false))⟩),
  (30, ⟨(some 35), .nchk (.tmp 34), (some (33, false))⟩),
  (31, ⟨(some 36), .fad 11 (.tmp 35), (some (33, false))⟩),
  (32, ⟨(some 37), .load false 1 (.tmp 36), (some (33, false))⟩),
  (33, ⟨(some 38), .mv (.tmp 0), (some (33, false))⟩),
  (34, ⟨(some 39), .nchk (.tmp 38), (some (33, false))⟩),
  (35, ⟨(some 40), .fad 0 (.tmp 39), (some (33, false))⟩),
  (36, ⟨(some 41), .fad 1 (.tmp 40), (some (33, false))⟩),
  (37, ⟨(some 42), .load false 1 (.tmp 41), (some (33, false))⟩),
  (38, ⟨(some 43), .lenL (.tmp 42), (some (33, false))⟩),
  (39, ⟨(some 44), .bin .geq (.tmp 37) (.tmp 43), (some (33, false))⟩),
  (40, ⟨(some 45), .pick (.tmp 33) (.c (.t (.b true))) (.tmp 44), none⟩)]
abbrev f52r1 : Pc := .reg f52o1 [0, 3, 45] []
abbrev f52o2 : List (Nat × Pop) := [
  (0, ⟨(some 46), .mv (.tmp 0), none⟩),
  (1, ⟨(some 47), .nchk (.tmp 46), none⟩),
  (2, ⟨(some 48), .fad 12 (.tmp 47), none⟩),
  (3, ⟨(some 49), .load false 1 (.tmp 48), none⟩),
  (4, ⟨(some 50), .mkfn 92 [(.tmp 3)], none⟩),
  (5, ⟨(some 51), .call 91 [(.tmp 49), (.tmp 50)], none⟩),
  (6, ⟨(some 4), .mv (.tmp 51), none⟩)]
abbrev f52r2 : Pc := .reg f52o2 [0, 3, 4] []
abbrev f52o3 : List (Nat × Pop) := [
  (0, ⟨(some 52), .mv (.tmp 4), none⟩),
  (1, ⟨(some 53), .bin .lss (.tmp 52) (.c (.t (.i .i64 0))), none⟩),
  (2, ⟨(some 54), .mv (.tmp 53), none⟩),
  (3, ⟨(some 55), .mv (.tmp 0), (some (54, false))⟩),
  (4, ⟨(some 56), .nchk (.tmp 55), (some (54, false))⟩),
  (5, ⟨(some 57), .fad 14 (.tmp 56), (some (54, false))⟩),
  (6, ⟨(some 58), .load false 1 (.tmp 57), (some (54, false))⟩),
  (7, ⟨(some 59), .mv (.tmp 4), (some (54, false))⟩),
  (8, ⟨(some 60), .ixS 1 (.tmp 58) (.tmp 59), (some (54, false))⟩),
  (9, ⟨(some 61), .load false 1 (.tmp 60), (some (54, false))⟩),
  (10, ⟨(some 62), .pick (.tmp 54) (.c (.t (.b true))) (.tmp 61), none⟩)]
abbrev f52r3 : Pc := .reg f52o3 [0, 3, 4, 62] []
abbrev f52o4 : List (Nat × Pop) := [
  (0, ⟨(some 63), .mv (.tmp 0), none⟩),
  (1, ⟨(some 64), .nchk (.tmp 63), none⟩),
  (2, ⟨(some 65), .fad 13 (.tmp 64), none⟩),
  (3, ⟨(some 66), .load false 1 (.tmp 65), none⟩),
  (4, ⟨(some 67), .mv (.tmp 4), none⟩),
  (5, ⟨(some 68), .mv (.tmp 0), none⟩),
  (6, ⟨(some 69), .nchk (.tmp 68), none⟩),
  (7, ⟨(some 70), .fad 14 (.tmp 69), none⟩),
  (8, ⟨(some 71), .load false 1 (.tmp 70), none⟩),
  (9, ⟨(some 72), .mv (.tmp 4), none⟩),
  (10, ⟨(some 73), .fad 10 (.tmp 3), none⟩),
  (11, ⟨(some 74), .load false 1 (.tmp 73), none⟩),
  (12, ⟨(some 75), .ixS 1 (.tmp 66) (.tmp 67), none⟩),
  (13, ⟨none, .store 1 (.tmp 75) (.tmp 74), none⟩),
  (14, ⟨(some 76), .ixS 1 (.tmp 71) (.tmp 72), none⟩),
  (15, ⟨none, .store 1 (.tmp 76) (.c (.t (.b true))), none⟩)]
abbrev f52r4 : Pc := .reg f52o4 [0] []
abbrev f52o5 : List (Nat × Pop) := [
  (0, ⟨(some 77), .mv (.tmp 0), none⟩),
  (1, ⟨(some 78), .call 37 [(.tmp 77)], none⟩)]
abbrev f52r5 : Pc := .reg f52o5 [] []
abbrev f52b : Pc := (.seq f52r0 (.seq (.seq f52r1 (.cond (.tmp 45) .ret .skip)) (.seq f52r2 (.seq (.seq f52r3 (.cond (.tmp 62) .ret .skip)) (.seq f52r4 f52r5)))))
abbrev f52 : Pfn := ⟨2, 79, [], f52b⟩
def f52K : Array (List Nat) := #[[0, 3], [0, 3, 45], [0, 3, 4], [0, 3, 4, 62], [0], []]
def f52H : Array (List Nat) := #[[], [], [], [], [], []]
def f52A : Ann := ⟨fun r => f52K.getD r [], fun r => f52H.getD r [], fun r i => ([] : List (Nat × Nat)).contains (r, i)⟩
theorem f52C : compF Go.Proofs.Tryz.prog f52A 52 = some f52 := by kernel_rfl

/-- switchboard/node.Work -/
abbrev f53o0 : List (Nat × Pop) := [
  (0, ⟨(some 5), .box 24 2 (.tmp 0), none⟩),
  (1, ⟨(some 6), .box 27 2 (.tmp 1), none⟩),
  (2, ⟨(some 9), .box 44 11 (.tmp 4), none⟩),
  (3, ⟨(some 10), .nilv 165 5, none⟩),
  (4, ⟨(some 11), .alloc 44 [(.t (.i .i64 0)), (.t (.i .i64 0)), (.t (.i .i64 0)), (.t (.i .i64 0)), (.t (.i .i64 0)), (.t (.i .i64 0)), (.t (.i .i64 0)), (.t (.i .i64 0)), (.t (.i .i64 0)), (.t (.i .i64 0)), .nl], none⟩),
  (5, ⟨(some 12), .mv (.c (.t (.b false))), none⟩)]
abbrev f53r0 : Pc := .reg f53o0 [2, 3, 5, 6, 9, 11] [10]
abbrev f53o1 : List (Nat × Pop) := [
  (0, ⟨(some 17), .load true 2 (.tmp 5), none⟩),
  (1, ⟨(some 18), .load true 2 (.tmp 6), none⟩),
  (2, ⟨(some 19), .mv (.tmp 2), none⟩),
  (3, ⟨(some 20), .load true 11 (.tmp 9), none⟩),
  (4, ⟨(some 21), .call 93 [(.tmp 17), (.tmp 18), (.tmp 19), (.tmp 20)], none⟩),
  (5, ⟨(some 22), .un .not (.tmp 21), none⟩)]
abbrev f53r1 : Pc := .reg f53o1 [2, 3, 5, 6, 9, 11, 22] []
abbrev f53o2 : List (Nat × Pop) := [
  (0, ⟨(some 23), .mv (.tmp 3), none⟩),
  (1, ⟨(some 24), .build [(.t (.i .i64 0)), (.t (.i .i64 0)), (.t (.i .i64 0)), (.t (.i .i64 0)), (.t (.i .i64 0)), (.t (.i .i64 0)), (.t (.i .i64 0)), (.t (.i .i64 0)), (.t (.i .i64 0)), (.t (.i .i64 0)), .nl] [], none⟩),
  (2, ⟨(some 10), .mv (.tmp 23), none⟩),
  (3, ⟨none, .store 11 (.tmp 11) (.tmp 24), none⟩),
  (4, ⟨(some 12), .mv (.c (.t (.b false))), none⟩)]
abbrev f53r2 : Pc := .reg f53o2 [10, 11, 12] [5, 6, 9]
abbrev f53o3 : List (Nat × Pop) := [
  (0, ⟨(some 25), .load true 11 (.tmp 9), none⟩),
  (1, ⟨(some 13), .alloc 44 [(.t (.i .i64 0)), (.t (.i .i64 0)), (.t (.i .i64 0)), (.t (.i .i64 0)), (.t (.i .i64 0)), (.t (.i .i64 0)), (.t (.i .i64 0)), (.t (.i .i64 0)), (.t (.i .i64 0)), (.t (.i .i64 0)), .nl], none⟩),
  (2, ⟨none, .store 11 (.tmp 13) (.tmp 25), none⟩)]
abbrev f53r3 : Pc := .reg f53o3 [2, 3, 5, 6, 9, 11, 13] []
abbrev f53o4 : List (Nat × Pop) := [
  (0, ⟨(some 26), .mv (.tmp 2), none⟩),
  (1, ⟨(some 27), .fad 1 (.tmp 9), none⟩),
  (2, ⟨(some 28), .loadS [9] false 1 (.tmp 27), none⟩),
  (3, ⟨(some 29), .fad 0 (.tmp 6), none⟩),
  (4, ⟨(some 30), .loadS [6] false 1 (.tmp 29), none⟩),
  (5, ⟨(some 31), .fad 0 (.tmp 13), none⟩),
  (6, ⟨none, .storeS [13] 1 (.tmp 31) (.c (.t (.i .i64 3))), none⟩),
  (7, ⟨(some 32), .fad 1 (.tmp 13), none⟩),
  (8, ⟨none, .storeS [13] 1 (.tmp 32) (.tmp 26), none⟩),
  (9, ⟨(some 33), .fad 2 (.tmp 13), none⟩),
  (10, ⟨none, .storeS [13] 1 (.tmp 33) (.tmp 28), none⟩),
  (11, ⟨(some 34), .fad 9 (.tmp 13), none⟩),
  (12, ⟨none, .store 1 (.tmp 34) (.tmp 30), none⟩),
  (13, ⟨(some 35), .fad 10 (.tmp 13), none⟩),
  (14, ⟨none, .store 1 (.tmp 35) (.c .nl), none⟩)]
abbrev f53r4 : Pc := .reg f53o4 [2, 3, 5, 6, 9, 11, 13] []
abbrev f53o5 : List (Nat × Pop) := [
  (0, ⟨(some 36), .fad 9 (.tmp 9), none⟩),
  (1, ⟨(some 37), .load false 1 (.tmp 36), none⟩),
  (2, ⟨(some 38), .fad 0 (.tmp 6), none⟩),
  (3, ⟨(some 39), .load false 1 (.tmp 38), none⟩),
  (4, ⟨(some 40), .bin .neq (.tmp 37) (.tmp 39), none⟩),
  (5, ⟨(some 41), .mv (.tmp 40), none⟩),
  (6, ⟨(some 42), .load true 2 (.tmp 6), (some (41, false))⟩),
  (7, ⟨(some 43), .fad 8 (.tmp 9), (some (41, false))⟩),
  (8, ⟨(some 44), .load false 1 (.tmp 43), (some (41, false))⟩),
  (9, ⟨(some 45), .mv (.tmp 2), (some (41, false))⟩),
  (10, ⟨(some 46), .call 57 [(.tmp 42), (.tmp 44), (.tmp 45)], (some (41, false))⟩),
  (11, ⟨(some 47), .un .not (.tmp 46), (some (41, false))⟩),
  (12, ⟨(some 48), .pick (.tmp 41) (.c (.t (.b true))) (.tmp 47), none⟩)]
abbrev f53r5 : Pc := .reg f53o5 [3, 5, 9, 11, 13, 48] [6]
abbrev f53o6 : List (Nat × Pop) := [
  (0, ⟨(some 49), .mv (.tmp 3), none⟩),
  (1, ⟨(some 50), .load true 11 (.tmp 13), none⟩),
  (2, ⟨(some 10), .mv (.tmp 49), none⟩),
  (3, ⟨none, .store 11 (.tmp 11) (.tmp 50), none⟩),
  (4, ⟨(some 12), .mv (.c (.t (.b true))), none⟩)]
abbrev f53r6 : Pc := .reg f53o6 [10, 11, 12] [5, 9, 13]
abbrev f53o7 : List (Nat × Pop) := [
  (0, ⟨(some 51), .fad 4 (.tmp 9), none⟩),
  (1, ⟨(some 52), .load false 1 (.tmp 51), none⟩),
  (2, ⟨(some 53), .fad 5 (.tmp 9), none⟩),
  (3, ⟨(some 54), .load false 1 (.tmp 53), none⟩),
  (4, ⟨(some 55), .fad 6 (.tmp 9), none⟩),
  (5, ⟨(some 56), .load false 1 (.tmp 55), none⟩),
  (6, ⟨(some 57), .fad 7 (.tmp 9), none⟩),
  (7, ⟨(some 58), .load false 1 (.tmp 57), none⟩),
  (8, ⟨(some 59), .build [(.t (.i .i64 0)), (.t (.i .i64 0)), (.t (.i .i64 0)), (.t (.i .i64 0))] [(0, 1, (.tmp 52)), (1, 1, (.tmp 54)), (2, 1, (.tmp 56)), (3, 1, (.tmp 58))], none⟩),
  (9, ⟨(some 14), .alloc 137 [(.t (.i .i64 0)), (.t (.i .i64 0)), (.t (.i .i64 0)), (.t (.i .i64 0))], none⟩),
  (10, ⟨none, .store 4 (.tmp 14) (.tmp 59), none⟩)]
abbrev f53r7 : Pc := .reg f53o7 [3, 5, 9, 11, 13, 14] []
abbrev f53o8 : List (Nat × Pop) := [
  (0, ⟨(some 61), .mv (.tmp 3), none⟩),
  (1, ⟨(some 62), .load true 4 (.tmp 14), none⟩),
  (2, ⟨(some 63), .call 94 [(.tmp 61), (.tmp 62)], none⟩),
  (3, ⟨(some 60), .mv (.tmp 63), none⟩),
  (4, ⟨(some 64), .ext 0 (.tmp 60), none⟩),
  (5, ⟨(some 65), .ext 1 (.tmp 60), none⟩),
  (6, ⟨(some 15), .mv (.tmp 64), none⟩),
  (7, ⟨(some 16), .mv (.tmp 65), none⟩)]
abbrev f53r8 : Pc := .reg f53o8 [3, 5, 9, 11, 13, 14, 15, 16] []
abbrev f53o9 : List (Nat × Pop) := [
  (0, ⟨(some 66), .mv (.tmp 16), none⟩),
  (1, ⟨(some 67), .un .not (.tmp 66), none⟩)]
abbrev f53r9 : Pc := .reg f53o9 [3, 5, 9, 11, 13, 14, 15, 67] []
abbrev f53o10 : List (Nat × Pop) := [
  (0, ⟨(some 69), .fad 1 (.tmp 5), none⟩),
  (1, ⟨(some 70), .load false 1 (.tmp 69), none⟩),
  (2, ⟨(some 71), .fad 5 (.tmp 9), none⟩),
  (3, ⟨(some 72), .load false 1 (.tmp 71), none⟩),
  (4, ⟨(some 73), .ixS 3 (.tmp 70) (.tmp 72), none⟩),
  (5, ⟨(some 74), .fad 1 (.tmp 73), none⟩),
  (6, ⟨(some 75), .load false 1 (.tmp 74), none⟩),
  (7, ⟨(some 76), .fad 8 (.tmp 9), none⟩),
  (8, ⟨(some 77), .load false 1 (.tmp 76), none⟩),
  (9, ⟨(some 78), .ixS 2 (.tmp 75) (.tmp 77), none⟩),
  (10, ⟨(some 79), .load true 2 (.tmp 78), none⟩),
  (11, ⟨(some 80), .fad 10 (.tmp 9), none⟩),
  (12, ⟨(some 81), .load false 1 (.tmp 80), none⟩),
  (13, ⟨(some 82), .callq 95 [(.tmp 79), (.tmp 81)], none⟩),
  (14, ⟨(some 68), .mv (.tmp 82), none⟩),
  (15, ⟨(some 83), .ext 0 (.tmp 68), none⟩),
  (16, ⟨(some 84), .ext 1 (.tmp 68), none⟩),
  (17, ⟨(some 15), .mv (.tmp 83), none⟩)]
abbrev f53r10 : Pc := .reg f53o10 [3, 11, 13, 14, 15] [5, 9]
abbrev f53o11 : List (Nat × Pop) := [
  (0, ⟨(some 86), .mv (.tmp 3), none⟩),
  (1, ⟨(some 87), .load true 4 (.tmp 14), none⟩),
  (2, ⟨(some 88), .mv (.tmp 15), none⟩),
  (3, ⟨(some 89), .call 96 [(.tmp 86), (.tmp 87), (.tmp 88)], none⟩),
  (4, ⟨(some 85), .mv (.tmp 89), none⟩),
  (5, ⟨(some 90), .ext 0 (.tmp 85), none⟩),
  (6, ⟨(some 91), .ext 1 (.tmp 85), none⟩),
  (7, ⟨(some 3), .mv (.tmp 90), none⟩)]
abbrev f53r11 : Pc := .reg f53o11 [3, 11, 13, 15] [14]
abbrev f53o12 : List (Nat × Pop) := [
  (0, ⟨(some 92), .mv (.tmp 15), none⟩),
  (1, ⟨(some 93), .fad 0 (.tmp 13), none⟩),
  (2, ⟨none, .store 1 (.tmp 93) (.c (.t (.i .i64 2))), none⟩),
  (3, ⟨(some 94), .fad 10 (.tmp 13), none⟩),
  (4, ⟨none, .store 1 (.tmp 94) (.tmp 92), none⟩)]
abbrev f53r12 : Pc := .reg f53o12 [3, 11, 13] [5, 9, 14]
abbrev f53o13 : List (Nat × Pop) := [
  (0, ⟨(some 95), .mv (.tmp 3), none⟩),
  (1, ⟨(some 96), .load true 11 (.tmp 13), none⟩),
  (2, ⟨(some 10), .mv (.tmp 95), none⟩),
  (3, ⟨none, .store 11 (.tmp 11) (.tmp 96), none⟩),
  (4, ⟨(some 12), .mv (.c (.t (.b true))), none⟩)]
abbrev f53r13 : Pc := .reg f53o13 [10, 11, 12] [13]
abbrev f53b : Pc := (.seq f53r0 (.seq (.seq f53r1 (.cond (.tmp 22) (.seq f53r2 .ret) .skip)) (.seq f53r3 (.seq f53r4 (.seq (.seq f53r5 (.cond (.tmp 48) (.seq f53r6 .ret) .skip)) (.seq f53r7 (.seq f53r8 (.seq (.seq f53r9 (.cond (.tmp 67) (.seq f53r10 f53r11) .skip)) (.seq f53r12 (.seq f53r13 .ret))))))))))
abbrev f53 : Pfn := ⟨5, 97, [.tmp 10, .cell 11 true 11, .tmp 12], f53b⟩
def f53K : Array (List Nat) := #[[2, 3, 5, 6, 9, 11], [2, 3, 5, 6, 9, 11, 22], [10, 11, 12], [2, 3, 5, 6, 9, 11, 13], [2, 3, 5, 6, 9, 11, 13], [3, 5, 9, 11, 13, 48], [10, 11, 12], [3, 5, 9, 11, 13, 14], [3, 5, 9, 11, 13, 14, 15, 16], [3, 5, 9, 11, 13, 14, 15, 67], [3, 11, 13, 14, 15], [3, 11, 13, 15], [3, 11, 13], [10, 11, 12]]
def f53H : Array (List Nat) := #[[10], [], [5, 6, 9], [], [], [6], [5, 9, 13], [], [], [], [5, 9], [14], [5, 9, 14], [13]]
def f53A : Ann := ⟨fun r => f53K.getD r [], fun r => f53H.getD r [], fun r i => ([(4, 2002), (4, 12002), (4, 2004), (4, 9004), (4, 2006), (4, 16006), (4, 2008), (4, 16008), (4, 2010), (4, 16010)] : List (Nat × Nat)).contains (r, i)⟩
theorem f53C : compF Go.Proofs.Tryz.prog f53A 53 = some f53 := by kernel_rfl

/-- (*switchboard/fleet.Fleet).send -/
abbrev f54o0 : List (Nat × Pop) := [
  (0, ⟨(some 3), .box 44 11 (.tmp 1), none⟩)]
abbrev f54r0 : Pc := .reg f54o0 [0, 3] []
abbrev f54o1 : List (Nat × Pop) := [
  (0, ⟨(some 7), .load true 11 (.tmp 3), none⟩),
  (1, ⟨(some 8), .call 97 [(.tmp 7)], none⟩),
  (2, ⟨(some 6), .mv (.tmp 8), none⟩),
  (3, ⟨(some 9), .ext 0 (.tmp 6), none⟩),
  (4, ⟨(some 10), .ext 1 (.tmp 6), none⟩),
  (5, ⟨(some 4), .mv (.tmp 9), none⟩),
  (6, ⟨(some 5), .mv (.tmp 10), none⟩)]
abbrev f54r1 : Pc := .reg f54o1 [0, 4, 5] []
abbrev f54o2 : List (Nat × Pop) := [
  (0, ⟨(some 11), .mv (.tmp 5), none⟩),
  (1, ⟨(some 12), .bin .eql (.tmp 11) (.c (.t (.i .i64 0))), none⟩)]
abbrev f54r2 : Pc := .reg f54o2 [0, 4, 12] []
abbrev f54o3 : List (Nat × Pop) := [
  (0, ⟨(some 13), .mv (.tmp 0), none⟩),
  (1, ⟨(some 14), .mv (.tmp 0), none⟩),
  (2, ⟨(some 15), .nchk (.tmp 14), none⟩),
  (3, ⟨(some 16), .fad 9 (.tmp 15), none⟩),
  (4, ⟨(some 17), .load false 1 (.tmp 16), none⟩),
  (5, ⟨(some 18), .mv (.tmp 4), none⟩),
  (6, ⟨(some 19), .call 98 [(.tmp 17), (.tmp 18)], none⟩),
  (7, ⟨(some 20), .nchk (.tmp 13), none⟩),
  (8, ⟨(some 21), .fad 9 (.tmp 20), none⟩),
  (9, ⟨none, .store 1 (.tmp 21) (.tmp 19), none⟩)]
abbrev f54r3 : Pc := .reg f54o3 [] []
abbrev f54b : Pc := (.seq f54r0 (.seq f54r1 (.seq f54r2 (.cond (.tmp 12) f54r3 .skip))))
abbrev f54 : Pfn := ⟨2, 22, [], f54b⟩
def f54K : Array (List Nat) := #[[0, 3], [0, 4, 5], [0, 4, 12], []]
def f54H : Array (List Nat) := #[[], [], [], []]
def f54A : Ann := ⟨fun r => f54K.getD r [], fun r => f54H.getD r [], fun r i => ([] : List (Nat × Nat)).contains (r, i)⟩
theorem f54C : compF Go.Proofs.Tryz.prog f54A 54 = some f54 := by kernel_rfl

/-- switchboard/switchboardref02.Same -/
abbrev f55o0 : List (Nat × Pop) := [
  (0, ⟨(some 4), .mv (.c (.t (.b false))), none⟩)]
abbrev f55r0 : Pc := .reg f55o0 [0, 1] []
abbrev f55o1 : List (Nat × Pop) := [
  (0, ⟨(some 6), .mv (.tmp 0), none⟩),
  (1, ⟨(some 7), .lenL (.tmp 6), none⟩),
  (2, ⟨(some 8), .mv (.tmp 1), none⟩),
  (3, ⟨(some 9), .lenL (.tmp 8), none⟩),
  (4, ⟨(some 10), .bin .neq (.tmp 7) (.tmp 9), none⟩)]
abbrev f55r1 : Pc := .reg f55o1 [0, 1, 10] []
abbrev f55o2 : List (Nat × Pop) := [
  (0, ⟨(some 4), .mv (.c (.t (.b false))), none⟩)]
abbrev f55r2 : Pc := .reg f55o2 [4] []
abbrev f55o3 : List (Nat × Pop) := [
  (0, ⟨(some 5), .mv (.c (.t (.i .i64 0))), none⟩)]
abbrev f55r3 : Pc := .reg f55o3 [0, 1, 5] []
abbrev f55o4 : List (Nat × Pop) := [
  (0, ⟨(some 11), .mv (.tmp 5), none⟩),
  (1, ⟨(some 12), .mv (.tmp 0), none⟩),
  (2, ⟨(some 13), .lenL (.tmp 12), none⟩),
  (3, ⟨(some 14), .bin .lss (.tmp 11) (.tmp 13), none⟩)]
abbrev f55r4 : Pc := .reg f55o4 [0, 1, 5, 14] []
abbrev f55o6 : List (Nat × Pop) := [
  (0, ⟨(some 17), .mv (.tmp 0), none⟩),
  (1, ⟨(some 18), .mv (.tmp 5), none⟩),
  (2, ⟨(some 19), .ixS 1 (.tmp 17) (.tmp 18), none⟩),
  (3, ⟨(some 20), .load false 1 (.tmp 19), none⟩),
  (4, ⟨(some 21), .mv (.tmp 1), none⟩),
  (5, ⟨(some 22), .mv (.tmp 5), none⟩),
  (6, ⟨(some 23), .ixS 1 (.tmp 21) (.tmp 22), none⟩),
  (7, ⟨(some 24), .load false 1 (.tmp 23), none⟩),
  (8, ⟨(some 25), .bin .neq (.tmp 20) (.tmp 24), none⟩)]
abbrev f55r6 : Pc := .reg f55o6 [0, 1, 5, 25] []
abbrev f55o7 : List (Nat × Pop) := [
  (0, ⟨(some 4), .mv (.c (.t (.b false))), none⟩)]
abbrev f55r7 : Pc := .reg f55o7 [4] []
abbrev f55o5 : List (Nat × Pop) := [
  (0, ⟨(some 15), .mv (.tmp 5), none⟩),
  (1, ⟨(some 16), .bin .add (.tmp 15) (.c (.t (.i .i64 1))), none⟩),
  (2, ⟨(some 5), .mv (.tmp 16), none⟩)]
abbrev f55r5 : Pc := .reg f55o5 [0, 1, 5] []
def f55l0 : Pc := (.seq (.seq f55r4 (.cond (.tmp 14) .skip (.exit 0))) (.seq (.block 1 (.seq f55r6 (.cond (.tmp 25) (.seq f55r7 .ret) .skip))) f55r5))
theorem f55l0e (C : Cfg) (s : St) : evL C f55l0 s = evL C (.seq (.seq f55r4 (.cond (.tmp 14) .skip (.exit 0))) (.seq (.block 1 (.seq f55r6 (.cond (.tmp 25) (.seq f55r7 .ret) .skip))) f55r5)) s := rfl
abbrev f55o8 : List (Nat × Pop) := [
  (0, ⟨(some 4), .mv (.c (.t (.b true))), none⟩)]
abbrev f55r8 : Pc := .reg f55o8 [4] []
abbrev f55b : Pc := (.seq f55r0 (.seq (.seq f55r1 (.cond (.tmp 10) (.seq f55r2 .ret) .skip)) (.seq (.seq f55r3 (.block 0 (.loop f55l0))) (.seq f55r8 .ret))))
abbrev f55 : Pfn := ⟨2, 26, [.tmp 4], f55b⟩
def f55K : Array (List Nat) := #[[0, 1], [0, 1, 10], [4], [0, 1, 5], [0, 1, 5, 14], [0, 1, 5], [0, 1, 5, 25], [4], [4]]
def f55H : Array (List Nat) := #[[], [], [], [], [], [], [], [], []]
def f55A : Ann := ⟨fun r => f55K.getD r [], fun r => f55H.getD r [], fun r i => ([] : List (Nat × Nat)).contains (r, i)⟩
theorem f55C : compF Go.Proofs.Tryz.prog f55A 55 = some f55 := by kernel_rfl

/-- switchboard/place.may -/
abbrev f56o0 : List (Nat × Pop) := [
  (0, ⟨(some 3), .box 27 2 (.tmp 0), none⟩),
  (1, ⟨(some 6), .mv (.c (.t (.b false))), none⟩)]
abbrev f56r0 : Pc := .reg f56o0 [1, 2, 3] []
abbrev f56o1 : List (Nat × Pop) := [
  (0, ⟨(some 7), .load true 2 (.tmp 3), none⟩),
  (1, ⟨(some 8), .call 32 [(.tmp 7)], none⟩),
  (2, ⟨(some 9), .mv (.tmp 8), none⟩),
  (3, ⟨(some 10), .mv (.tmp 1), (some (9, true))⟩),
  (4, ⟨(some 11), .bin .geq (.tmp 10) (.c (.t (.i .i64 0))), (some (9, true))⟩),
  (5, ⟨(some 12), .pick (.tmp 9) (.tmp 11) (.c (.t (.b false))), none⟩),
  (6, ⟨(some 13), .mv (.tmp 12), none⟩),
  (7, ⟨(some 14), .mv (.tmp 1), (some (13, true))⟩),
  (8, ⟨(some 15), .fad 1 (.tmp 3), (some (13, true))⟩),
  (9, ⟨(some 16), .load false 1 (.tmp 15), (some (13, true))⟩),
  (10, ⟨(some 17), .lenL (.tmp 16), (some (13, true))⟩),
  (11, ⟨(some 18), .bin .lss (.tmp 14) (.tmp 17), (some (13, true))⟩),
  (12, ⟨(some 19), .pick (.tmp 13) (.tmp 18) (.c (.t (.b false))), none⟩),
  (13, ⟨(some 20), .mv (.tmp 19), none⟩),
  (14, ⟨(some 21), .mv (.tmp 2), (some (20, true))⟩),
  (15, ⟨(some 22), .bin .geq (.tmp 21) (.c (.t (.i .i64 1))), (some (20, true))⟩),
  (16, ⟨(some 23), .pick (.tmp 20) (.tmp 22) (.c (.t (.b false))), none⟩),
  (17, ⟨(some 24), .mv (.tmp 23), none⟩),
  (18, ⟨(some 25), .mv (.tmp 2), (some (24, true))⟩),
  (19, ⟨(some 26), .bin .leq (.tmp 25) (.c (.t (.i .i64 4))), (some (24, true))⟩),
  (20, ⟨(some 27), .pick (.tmp 24) (.tmp 26) (.c (.t (.b false))), none⟩),
  (21, ⟨(some 28), .mv (.tmp 27), none⟩),
  (22, ⟨(some 29), .fad 0 (.tmp 3), (some (28, true))⟩),
  (23, ⟨(some 30), .load false 1 (.tmp 29), (some (28, true))⟩),
  (24, ⟨(some 31), .bin .lss (.tmp 30) (.c (.t (.i .i64 2147483647))), (some (28, true))⟩),
  (25, ⟨(some 32), .pick (.tmp 28) (.tmp 31) (.c (.t (.b false))), none⟩),
  (26, ⟨(some 6), .mv (.tmp 32), none⟩)]
abbrev f56r1 : Pc := .reg f56o1 [6] [3]
abbrev f56b : Pc := (.seq f56r0 (.seq f56r1 .ret))
abbrev f56 : Pfn := ⟨3, 33, [.tmp 6], f56b⟩
def f56K : Array (List Nat) := #[[1, 2, 3], [6]]
def f56H : Array (List Nat) := #[[], [3]]
def f56A : Ann := ⟨fun r => f56K.getD r [], fun r => f56H.getD r [], fun r i => ([] : List (Nat × Nat)).contains (r, i)⟩
theorem f56C : compF Go.Proofs.Tryz.prog f56A 56 = some f56 := by kernel_rfl

/-- switchboard/place.Holds -/
abbrev f57o0 : List (Nat × Pop) := [
  (0, ⟨(some 3), .box 27 2 (.tmp 0), none⟩),
  (1, ⟨(some 6), .mv (.c (.t (.b false))), none⟩)]
abbrev f57r0 : Pc := .reg f57o0 [1, 2, 3] []
abbrev f57o1 : List (Nat × Pop) := [
  (0, ⟨(some 7), .mv (.tmp 1), none⟩),
  (1, ⟨(some 8), .bin .geq (.tmp 7) (.c (.t (.i .i64 0))), none⟩),
  (2, ⟨(some 9), .mv (.tmp 8), none⟩),
  (3, ⟨(some 10), .mv (.tmp 1), (some (9, true))⟩),
  (4, ⟨(some 11), .fad 1 (.tmp 3), (some (9, true))⟩),
  (5, ⟨(some 12), .load false 1 (.tmp 11), (some (9, true))⟩),
  (6, ⟨(some 13), .lenL (.tmp 12), (some (9, true))⟩),
  (7, ⟨(some 14), .bin .lss (.tmp 10) (.tmp 13), (some (9, true))⟩),
  (8, ⟨(some 15), .pick (.tmp 9) (.tmp 14) (.c (.t (.b false))), none⟩),
  (9, ⟨(some 16), .mv (.tmp 15), none⟩),
  (10, ⟨(some 17), .fad 1 (.tmp 3), (some (16, true))⟩),
  (11, ⟨(some 18), .load false 1 (.tmp 17), (some (16, true))⟩),
  (12, ⟨(some 19), .mv (.tmp 1), (some (16, true))⟩),
  (13, ⟨(some 20), .ixS 1 (.tmp 18) (.tmp 19), (some (16, true))⟩),
  (14, ⟨(some 21), .load false 1 (.tmp 20), (some (16, true))⟩),
  (15, ⟨(some 22), .mv (.tmp 2), (some (16, true))⟩),
  (16, ⟨(some 23), .call 99 [(.tmp 21), (.tmp 22)], (some (16, true))⟩),
  (17, ⟨(some 24), .pick (.tmp 16) (.tmp 23) (.c (.t (.b false))), none⟩),
  (18, ⟨(some 6), .mv (.tmp 24), none⟩)]
abbrev f57r1 : Pc := .reg f57o1 [6] [3]
abbrev f57b : Pc := (.seq f57r0 (.seq f57r1 .ret))
abbrev f57 : Pfn := ⟨3, 25, [.tmp 6], f57b⟩
def f57K : Array (List Nat) := #[[1, 2, 3], [6]]
def f57H : Array (List Nat) := #[[], [3]]
def f57A : Ann := ⟨fun r => f57K.getD r [], fun r => f57H.getD r [], fun r i => ([] : List (Nat × Nat)).contains (r, i)⟩
theorem f57C : compF Go.Proofs.Tryz.prog f57A 57 = some f57 := by kernel_rfl

/-- slices.Clone[[]int,int] -/
abbrev f58o0 : List (Nat × Pop) := [
  (0, ⟨(some 2), .nilv 3 1, none⟩)]
abbrev f58r0 : Pc := .reg f58o0 [0] [2, 5, 7]
abbrev f58o1 : List (Nat × Pop) := [
  (0, ⟨(some 3), .mv (.tmp 0), none⟩),
  (1, ⟨(some 4), .isnilS false (.tmp 3), none⟩)]
abbrev f58r1 : Pc := .reg f58o1 [0, 4] []
abbrev f58o2 : List (Nat × Pop) := [
  (0, ⟨(some 2), .nilv 3 1, none⟩)]
abbrev f58r2 : Pc := .reg f58o2 [2] []
abbrev f58o3 : List (Nat × Pop) := [
  (0, ⟨(some 5), .bslO 3 1 [], none⟩),
  (1, ⟨(some 6), .mv (.tmp 0), none⟩),
  (2, ⟨(some 7), .app 3 1 8 (.tmp 5) (.tmp 6), none⟩),
  (3, ⟨(some 2), .mv (.tmp 7), none⟩)]
abbrev f58r3 : Pc := .reg f58o3 [2] []
abbrev f58b : Pc := (.seq f58r0 (.seq (.seq f58r1 (.cond (.tmp 4) (.seq f58r2 .ret) .skip)) (.seq f58r3 .ret)))
abbrev f58 : Pfn := ⟨1, 8, [.tmp 2], f58b⟩
def f58K : Array (List Nat) := #[[0], [0, 4], [2], [2]]
def f58H : Array (List Nat) := #[[2, 5, 7], [], [], []]
def f58A : Ann := ⟨fun r => f58K.getD r [], fun r => f58H.getD r [], fun r i => ([(3, 0), (3, 0)] : List (Nat × Nat)).contains (r, i)⟩
theorem f58C : compF Go.Proofs.Tryz.prog f58A 58 = some f58 := by kernel_rfl

/-- switchboard/place.turned -/
abbrev f60o0 : List (Nat × Pop) := [
  (0, ⟨(some 3), .box 27 2 (.tmp 0), none⟩),
  (1, ⟨(some 6), .alloc 27 [(.t (.i .i64 0)), .nl], none⟩)]
abbrev f60r0 : Pc := .reg f60o0 [1, 2, 3, 6] []
abbrev f60o1 : List (Nat × Pop) := [
  (0, ⟨(some 8), .fad 0 (.tmp 3), none⟩),
  (1, ⟨(some 9), .load false 1 (.tmp 8), none⟩),
  (2, ⟨(some 10), .bin .add (.tmp 9) (.c (.t (.i .i64 1))), none⟩),
  (3, ⟨(some 11), .fad 1 (.tmp 3), none⟩),
  (4, ⟨(some 12), .load false 1 (.tmp 11), none⟩),
  (5, ⟨(some 13), .callo 35 [(.tmp 12)], none⟩),
  (6, ⟨(some 14), .build [(.t (.i .i64 0)), .nl] [(0, 1, (.tmp 10)), (1, 1, (.tmp 13))], none⟩),
  (7, ⟨(some 7), .alloc 27 [(.t (.i .i64 0)), .nl], none⟩),
  (8, ⟨none, .store 2 (.tmp 7) (.tmp 14), none⟩)]
abbrev f60r1 : Pc := .reg f60o1 [1, 2, 6, 7] [3]
abbrev f60o2 : List (Nat × Pop) := [
  (0, ⟨(some 15), .fad 1 (.tmp 7), none⟩),
  (1, ⟨(some 16), .load false 1 (.tmp 15), none⟩),
  (2, ⟨(some 17), .mv (.tmp 1), none⟩),
  (3, ⟨(some 18), .mv (.tmp 2), none⟩),
  (4, ⟨(some 19), .ixS 1 (.tmp 16) (.tmp 17), none⟩),
  (5, ⟨none, .store 1 (.tmp 19) (.tmp 18), none⟩)]
abbrev f60r2 : Pc := .reg f60o2 [6, 7] []
abbrev f60o3 : List (Nat × Pop) := [
  (0, ⟨(some 20), .load true 2 (.tmp 7), none⟩),
  (1, ⟨none, .store 2 (.tmp 6) (.tmp 20), none⟩)]
abbrev f60r3 : Pc := .reg f60o3 [6] [7]
abbrev f60b : Pc := (.seq f60r0 (.seq f60r1 (.seq f60r2 (.seq f60r3 .ret))))
abbrev f60 : Pfn := ⟨3, 21, [.cell 6 true 2], f60b⟩
def f60K : Array (List Nat) := #[[1, 2, 3, 6], [1, 2, 6, 7], [6, 7], [6]]
def f60H : Array (List Nat) := #[[], [3], [], [7]]
def f60A : Ann := ⟨fun r => f60K.getD r [], fun r => f60H.getD r [], fun r i => ([(1, 5)] : List (Nat × Nat)).contains (r, i)⟩
theorem f60C : compF Go.Proofs.Tryz.prog f60A 60 = some f60 := by kernel_rfl

/-- slices.DeleteFunc[[]int,int] -/
abbrev f61o0 : List (Nat × Pop) := [
  (0, ⟨(some 4), .nilv 3 1, none⟩)]
abbrev f61r0 : Pc := .reg f61o0 [0, 1] [4]
abbrev f61o1 : List (Nat × Pop) := [
  (0, ⟨(some 8), .mv (.tmp 0), none⟩),
  (1, ⟨(some 9), .mv (.tmp 1), none⟩),
  (2, ⟨(some 10), .call 102 [(.tmp 8), (.tmp 9)], none⟩),
  (3, ⟨(some 5), .mv (.tmp 10), none⟩)]
abbrev f61r1 : Pc := .reg f61o1 [0, 1, 5] []
abbrev f61o2 : List (Nat × Pop) := [
  (0, ⟨(some 11), .mv (.tmp 5), none⟩),
  (1, ⟨(some 12), .bin .eql (.tmp 11) (.c (.t (.i .i64 (-1)))), none⟩)]
abbrev f61r2 : Pc := .reg f61o2 [0, 1, 5, 12] []
abbrev f61o3 : List (Nat × Pop) := [
  (0, ⟨(some 13), .mv (.tmp 0), none⟩),
  (1, ⟨(some 4), .mv (.tmp 13), none⟩)]
abbrev f61r3 : Pc := .reg f61o3 [4] []
abbrev f61o4 : List (Nat × Pop) := [
  (0, ⟨(some 14), .mv (.tmp 5), none⟩),
  (1, ⟨(some 15), .bin .add (.tmp 14) (.c (.t (.i .i64 1))), none⟩),
  (2, ⟨(some 6), .mv (.tmp 15), none⟩)]
abbrev f61r4 : Pc := .reg f61o4 [0, 1, 5, 6] []
abbrev f61o5 : List (Nat × Pop) := [
  (0, ⟨(some 16), .mv (.tmp 6), none⟩),
  (1, ⟨(some 17), .mv (.tmp 0), none⟩),
  (2, ⟨(some 18), .lenL (.tmp 17), none⟩),
  (3, ⟨(some 19), .bin .lss (.tmp 16) (.tmp 18), none⟩)]
abbrev f61r5 : Pc := .reg f61o5 [0, 1, 5, 6, 19] []
abbrev f61o7 : List (Nat × Pop) := [
  (0, ⟨(some 22), .mv (.tmp 0), none⟩),
  (1, ⟨(some 23), .mv (.tmp 6), none⟩),
  (2, ⟨(some 24), .ixS 1 (.tmp 22) (.tmp 23), none⟩),
  (3, ⟨(some 25), .load false 1 (.tmp 24), none⟩),
  (4, ⟨(some 7), .mv (.tmp 25), none⟩)]
abbrev f61r7 : Pc := .reg f61o7 [0, 1, 5, 6, 7] []
abbrev f61o8 : List (Nat × Pop) := [
  (0, ⟨(some 26), .mv (.tmp 1), none⟩),
  (1, ⟨(some 27), .mv (.tmp 7), none⟩),
  (2, ⟨(some 28), .callv (.tmp 26) [(.tmp 27)], none⟩),
  (3, ⟨(some 29), .un .not (.tmp 28), none⟩)]
abbrev f61r8 : Pc := .reg f61o8 [0, 1, 5, 6, 7, 29] []
abbrev f61o9 : List (Nat × Pop) := [
  (0, ⟨(some 30), .mv (.tmp 0), none⟩),
  (1, ⟨(some 31), .mv (.tmp 5), none⟩),
  (2, ⟨(some 32), .mv (.tmp 7), none⟩),
  (3, ⟨(some 33), .ixS 1 (.tmp 30) (.tmp 31), none⟩),
  (4, ⟨none, .store 1 (.tmp 33) (.tmp 32), none⟩)]
abbrev f61r9 : Pc := .reg f61o9 [0, 1, 5, 6] []
abbrev f61o10 : List (Nat × Pop) := [
  (0, ⟨(some 34), .mv (.tmp 5), none⟩),
  (1, ⟨(some 35), .bin .add (.tmp 34) (.c (.t (.i .i64 1))), none⟩),
  (2, ⟨(some 5), .mv (.tmp 35), none⟩)]
abbrev f61r10 : Pc := .reg f61o10 [0, 1, 5, 6] []
abbrev f61o6 : List (Nat × Pop) := [
  (0, ⟨(some 20), .mv (.tmp 6), none⟩),
  (1, ⟨(some 21), .bin .add (.tmp 20) (.c (.t (.i .i64 1))), none⟩),
  (2, ⟨(some 6), .mv (.tmp 21), none⟩)]
abbrev f61r6 : Pc := .reg f61o6 [0, 1, 5, 6] []
def f61l0 : Pc := (.seq (.seq f61r5 (.cond (.tmp 19) .skip (.exit 0))) (.seq (.block 1 (.seq f61r7 (.seq f61r8 (.cond (.tmp 29) (.seq f61r9 f61r10) .skip)))) f61r6))
theorem f61l0e (C : Cfg) (s : St) : evL C f61l0 s = evL C (.seq (.seq f61r5 (.cond (.tmp 19) .skip (.exit 0))) (.seq (.block 1 (.seq f61r7 (.seq f61r8 (.cond (.tmp 29) (.seq f61r9 f61r10) .skip)))) f61r6)) s := rfl
abbrev f61o11 : List (Nat × Pop) := [
  (0, ⟨(some 36), .mv (.tmp 0), none⟩),
  (1, ⟨(some 37), .mv (.tmp 5), none⟩),
  (2, ⟨(some 38), .sls 1 (.tmp 36) (some (.tmp 37)) none, none⟩),
  (3, ⟨none, .clr 1 (.tmp 38), none⟩)]
abbrev f61r11 : Pc := .reg f61o11 [0, 5] []
abbrev f61o12 : List (Nat × Pop) := [
  (0, ⟨(some 39), .mv (.tmp 0), none⟩),
  (1, ⟨(some 40), .mv (.tmp 5), none⟩),
  (2, ⟨(some 41), .sls 1 (.tmp 39) none (some (.tmp 40)), none⟩),
  (3, ⟨(some 4), .mv (.tmp 41), none⟩)]
abbrev f61r12 : Pc := .reg f61o12 [4] []
abbrev f61b : Pc := (.seq f61r0 (.seq f61r1 (.seq (.seq f61r2 (.cond (.tmp 12) (.seq f61r3 .ret) .skip)) (.seq (.seq f61r4 (.block 0 (.loop f61l0))) (.seq f61r11 (.seq f61r12 .ret))))))
abbrev f61 : Pfn := ⟨2, 42, [.tmp 4], f61b⟩
def f61K : Array (List Nat) := #[[0, 1], [0, 1, 5], [0, 1, 5, 12], [4], [0, 1, 5, 6], [0, 1, 5, 6, 19], [0, 1, 5, 6], [0, 1, 5, 6, 7], [0, 1, 5, 6, 7, 29], [0, 1, 5, 6], [0, 1, 5, 6], [0, 5], [4]]
def f61H : Array (List Nat) := #[[4], [], [], [], [], [], [], [], [], [], [], [], []]
def f61A : Ann := ⟨fun r => f61K.getD r [], fun r => f61H.getD r [], fun r i => ([] : List (Nat × Nat)).contains (r, i)⟩
theorem f61C : compF Go.Proofs.Tryz.prog f61A 61 = some f61 := by kernel_rfl

/-- switchboard/place.Retire$1 -/
abbrev f62o0 : List (Nat × Pop) := [
  (0, ⟨(some 3), .mv (.c (.t (.b false))), none⟩)]
abbrev f62r0 : Pc := .reg f62o0 [0, 1] []
abbrev f62o1 : List (Nat × Pop) := [
  (0, ⟨(some 4), .mv (.tmp 0), none⟩),
  (1, ⟨(some 5), .load false 1 (.tmp 1), none⟩),
  (2, ⟨(some 6), .bin .eql (.tmp 4) (.tmp 5), none⟩),
  (3, ⟨(some 3), .mv (.tmp 6), none⟩)]
abbrev f62r1 : Pc := .reg f62o1 [3] []
abbrev f62b : Pc := (.seq f62r0 (.seq f62r1 .ret))
abbrev f62 : Pfn := ⟨2, 7, [.tmp 3], f62b⟩
def f62K : Array (List Nat) := #[[0, 1], [3]]
def f62H : Array (List Nat) := #[[], []]
def f62A : Ann := ⟨fun r => f62K.getD r [], fun r => f62H.getD r [], fun r i => ([] : List (Nat × Nat)).contains (r, i)⟩
theorem f62C : compF Go.Proofs.Tryz.prog f62A 62 = some f62 := by kernel_rfl

/-- (*switchboard/fleet.Fleet).Twice -/
abbrev f63o0 : List (Nat × Pop) := [
  (0, ⟨(some 4), .mv (.c (.t (.i .i64 0))), none⟩)]
abbrev f63r0 : Pc := .reg f63o0 [0, 1] []
abbrev f63o1 : List (Nat × Pop) := [
  (0, ⟨(some 5), .mv (.tmp 1), none⟩),
  (1, ⟨(some 6), .bin .lss (.tmp 5) (.c (.t (.i .i64 0))), none⟩),
  (2, ⟨(some 7), .mv (.tmp 6), none⟩),
  (3, ⟨(some 8), .mv (.tmp 1), (some (7, false))⟩),
  (4, ⟨(some 9), .mv (.tmp 0), (some (7, false))⟩),
  (5, ⟨(some 10), .nchk (.tmp 9), (some (7, false))⟩),
  (6, ⟨(some 11), .fad 9 (.tmp 10), (some (7, false))⟩),
  (7, ⟨(some 12), .load false 1 (.tmp 11), (some (7, false))⟩),
  (8, ⟨(some 13), .lenL (.tmp 12), (some (7, false))⟩),
  (9, ⟨(some 14), .bin .geq (.tmp 8) (.tmp 13), (some (7, false))⟩),
  (10, ⟨(some 15), .pick (.tmp 7) (.c (.t (.b true))) (.tmp 14), none⟩)]
abbrev f63r1 : Pc := .reg f63o1 [0, 1, 15] []
abbrev f63o2 : List (Nat × Pop) := [
  (0, ⟨(some 4), .mv (.c (.t (.i .i64 4))), none⟩)]
abbrev f63r2 : Pc := .reg f63o2 [4] []
abbrev f63o3 : List (Nat × Pop) := [
  (0, ⟨(some 16), .mv (.tmp 0), none⟩),
  (1, ⟨(some 17), .mv (.tmp 0), none⟩),
  (2, ⟨(some 18), .nchk (.tmp 17), none⟩),
  (3, ⟨(some 19), .fad 9 (.tmp 18), none⟩),
  (4, ⟨(some 20), .load false 1 (.tmp 19), none⟩),
  (5, ⟨(some 21), .mv (.tmp 1), none⟩),
  (6, ⟨(some 22), .call 103 [(.tmp 20), (.tmp 21)], none⟩),
  (7, ⟨(some 23), .nchk (.tmp 16), none⟩),
  (8, ⟨(some 24), .fad 9 (.tmp 23), none⟩),
  (9, ⟨none, .store 1 (.tmp 24) (.tmp 22), none⟩)]
abbrev f63r3 : Pc := .reg f63o3 [] []
abbrev f63o4 : List (Nat × Pop) := [
  (0, ⟨(some 4), .mv (.c (.t (.i .i64 0))), none⟩)]
abbrev f63r4 : Pc := .reg f63o4 [4] []
abbrev f63b : Pc := (.seq f63r0 (.seq (.seq f63r1 (.cond (.tmp 15) (.seq f63r2 .ret) .skip)) (.seq f63r3 (.seq f63r4 .ret))))
abbrev f63 : Pfn := ⟨2, 25, [.tmp 4], f63b⟩
def f63K : Array (List Nat) := #[[0, 1], [0, 1, 15], [4], [], [4]]
def f63H : Array (List Nat) := #[[], [], [], [], []]
def f63A : Ann := ⟨fun r => f63K.getD r [], fun r => f63H.getD r [], fun r i => ([] : List (Nat × Nat)).contains (r, i)⟩
theorem f63C : compF Go.Proofs.Tryz.prog f63A 63 = some f63 := by kernel_rfl

/-- switchboard/place.Pick -/
abbrev f64o0 : List (Nat × Pop) := [
  (0, ⟨(some 3), .box 27 2 (.tmp 0), none⟩),
  (1, ⟨(some 6), .mv (.c (.t (.i .i64 0))), none⟩),
  (2, ⟨(some 7), .mv (.c (.t (.b false))), none⟩)]
abbrev f64r0 : Pc := .reg f64o0 [1, 2, 3] []
abbrev f64o1 : List (Nat × Pop) := [
  (0, ⟨(some 9), .load true 2 (.tmp 3), none⟩),
  (1, ⟨(some 10), .call 32 [(.tmp 9)], none⟩),
  (2, ⟨(some 11), .un .not (.tmp 10), none⟩),
  (3, ⟨(some 12), .mv (.tmp 11), none⟩),
  (4, ⟨(some 13), .mv (.tmp 1), (some (12, false))⟩),
  (5, ⟨(some 14), .bin .lss (.tmp 13) (.c (.t (.i .i64 0))), (some (12, false))⟩),
  (6, ⟨(some 15), .pick (.tmp 12) (.c (.t (.b true))) (.tmp 14), none⟩),
  (7, ⟨(some 16), .mv (.tmp 15), none⟩),
  (8, ⟨(some 17), .mv (.tmp 1), (some (16, false))⟩),
  (9, ⟨(some 18), .fad 1 (.tmp 3), (some (16, false))⟩),
  (10, ⟨(some 19), .load false 1 (.tmp 18), (some (16, false))⟩),
  (11, ⟨(some 20), .lenL (.tmp 19), (some (16, false))⟩),
  (12, ⟨(some 21), .bin .geq (.tmp 17) (.tmp 20), (some (16, false))⟩),
  (13, ⟨(some 22), .pick (.tmp 16) (.c (.t (.b true))) (.tmp 21), none⟩),
  (14, ⟨(some 23), .mv (.tmp 22), none⟩),
  (15, ⟨(some 24), .mv (.tmp 2), (some (23, false))⟩),
  (16, ⟨(some 25), .bin .lss (.tmp 24) (.c (.t (.i .i64 0))), (some (23, false))⟩),
  (17, ⟨(some 26), .pick (.tmp 23) (.c (.t (.b true))) (.tmp 25), none⟩)]
abbrev f64r1 : Pc := .reg f64o1 [1, 2, 3, 26] []
abbrev f64o2 : List (Nat × Pop) := [
  (0, ⟨(some 6), .mv (.c (.t (.i .i64 0))), none⟩),
  (1, ⟨(some 7), .mv (.c (.t (.b false))), none⟩)]
abbrev f64r2 : Pc := .reg f64o2 [6, 7] [3]
abbrev f64o3 : List (Nat × Pop) := [
  (0, ⟨(some 27), .fad 1 (.tmp 3), none⟩),
  (1, ⟨(some 28), .load false 1 (.tmp 27), none⟩),
  (2, ⟨(some 29), .mv (.tmp 1), none⟩),
  (3, ⟨(some 30), .ixS 1 (.tmp 28) (.tmp 29), none⟩),
  (4, ⟨(some 31), .load false 1 (.tmp 30), none⟩),
  (5, ⟨(some 8), .mv (.tmp 31), none⟩)]
abbrev f64r3 : Pc := .reg f64o3 [2, 8] [3]
abbrev f64o4 : List (Nat × Pop) := [
  (0, ⟨(some 32), .mv (.tmp 8), none⟩),
  (1, ⟨(some 33), .mv (.tmp 2), none⟩),
  (2, ⟨(some 34), .mv (.tmp 8), none⟩),
  (3, ⟨(some 35), .lenL (.tmp 34), none⟩),
  (4, ⟨(some 36), .bin .rem (.tmp 33) (.tmp 35), none⟩),
  (5, ⟨(some 37), .ixS 1 (.tmp 32) (.tmp 36), none⟩),
  (6, ⟨(some 38), .load false 1 (.tmp 37), none⟩),
  (7, ⟨(some 6), .mv (.tmp 38), none⟩),
  (8, ⟨(some 7), .mv (.c (.t (.b true))), none⟩)]
abbrev f64r4 : Pc := .reg f64o4 [6, 7] []
abbrev f64b : Pc := (.seq f64r0 (.seq (.seq f64r1 (.cond (.tmp 26) (.seq f64r2 .ret) .skip)) (.seq f64r3 (.seq f64r4 .ret))))
abbrev f64 : Pfn := ⟨3, 39, [.tmp 6, .tmp 7], f64b⟩
def f64K : Array (List Nat) := #[[1, 2, 3], [1, 2, 3, 26], [6, 7], [2, 8], [6, 7]]
def f64H : Array (List Nat) := #[[], [], [3], [3], []]
def f64A : Ann := ⟨fun r => f64K.getD r [], fun r => f64H.getD r [], fun r i => ([] : List (Nat × Nat)).contains (r, i)⟩
theorem f64C : compF Go.Proofs.Tryz.prog f64A 64 = some f64 := by kernel_rfl

/-- switchboard/model.Right$1 -/
abbrev f65o0 : List (Nat × Pop) := [
  (0, ⟨(some 2), .box 53 3 (.tmp 0), none⟩),
  (1, ⟨(some 3), .mv (.c (.t (.b false))), none⟩)]
abbrev f65r0 : Pc := .reg f65o0 [1, 2] []
abbrev f65o1 : List (Nat × Pop) := [
  (0, ⟨(some 4), .load true 3 (.tmp 2), none⟩),
  (1, ⟨(some 5), .fad 0 (.tmp 1), none⟩),
  (2, ⟨(some 6), .load false 1 (.tmp 5), none⟩),
  (3, ⟨(some 7), .call 66 [(.tmp 4), (.tmp 6)], none⟩),
  (4, ⟨(some 8), .un .not (.tmp 7), none⟩),
  (5, ⟨(some 3), .mv (.tmp 8), none⟩)]
abbrev f65r1 : Pc := .reg f65o1 [3] [2]
abbrev f65b : Pc := (.seq f65r0 (.seq f65r1 .ret))
abbrev f65 : Pfn := ⟨2, 9, [.tmp 3], f65b⟩
def f65K : Array (List Nat) := #[[1, 2], [3]]
def f65H : Array (List Nat) := #[[], [2]]
def f65A : Ann := ⟨fun r => f65K.getD r [], fun r => f65H.getD r [], fun r i => ([] : List (Nat × Nat)).contains (r, i)⟩
theorem f65C : compF Go.Proofs.Tryz.prog f65A 65 = some f65 := by kernel_rfl

/-- switchboard/model.layer -/
abbrev f66o0 : List (Nat × Pop) := [
  (0, ⟨(some 2), .box 53 3 (.tmp 0), none⟩),
  (1, ⟨(some 3), .box 3 1 (.tmp 1), none⟩),
  (2, ⟨(some 4), .mv (.c (.t (.b false))), none⟩)]
abbrev f66r0 : Pc := .reg f66o0 [2, 3] []
abbrev f66o1 : List (Nat × Pop) := [
  (0, ⟨(some 6), .fad 1 (.tmp 2), none⟩),
  (1, ⟨(some 7), .load false 1 (.tmp 6), none⟩),
  (2, ⟨(some 8), .lenL (.tmp 7), none⟩),
  (3, ⟨(some 5), .mv (.tmp 8), none⟩)]
abbrev f66r1 : Pc := .reg f66o1 [2, 3, 5] []
abbrev f66o2 : List (Nat × Pop) := [
  (0, ⟨(some 9), .mv (.tmp 5), none⟩),
  (1, ⟨(some 10), .bin .geq (.tmp 9) (.c (.t (.i .i64 1))), none⟩),
  (2, ⟨(some 11), .mv (.tmp 10), none⟩),
  (3, ⟨(some 12), .mv (.tmp 5), (some (11, true))⟩),
  (4, ⟨(some 13), .bin .leq (.tmp 12) (.c (.t (.i .i64 8))), (some (11, true))⟩),
  (5, ⟨(some 14), .pick (.tmp 11) (.tmp 13) (.c (.t (.b false))), none⟩),
  (6, ⟨(some 15), .mv (.tmp 14), none⟩),
  (7, ⟨(some 16), .fad 0 (.tmp 2), (some (15, true))⟩),
  (8, ⟨(some 17), .load false 1 (.tmp 16), (some (15, true))⟩),
  (9, ⟨(some 18), .mv (.tmp 5), (some (15, true))⟩),
  (10, ⟨(some 19), .load false 1 (.tmp 3), (some (15, true))⟩),
  (11, ⟨(some 20), .call 104 [(.tmp 17), (.tmp 18), (.tmp 19)], (some (15, true))⟩),
  (12, ⟨(some 21), .pick (.tmp 15) (.tmp 20) (.c (.t (.b false))), none⟩),
  (13, ⟨(some 22), .mv (.tmp 21), none⟩),
  (14, ⟨(some 23), .fad 2 (.tmp 2), (some (22, true))⟩),
  (15, ⟨(some 24), .load false 1 (.tmp 23), (some (22, true))⟩),
  (16, ⟨(some 25), .bin .geq (.tmp 24) (.c (.t (.i .i64 1))), (some (22, true))⟩),
  (17, ⟨(some 26), .pick (.tmp 22) (.tmp 25) (.c (.t (.b false))), none⟩),
  (18, ⟨(some 27), .mv (.tmp 26), none⟩),
  (19, ⟨(some 28), .fad 2 (.tmp 2), (some (27, true))⟩),
  (20, ⟨(some 29), .load false 1 (.tmp 28), (some (27, true))⟩),
  (21, ⟨(some 30), .bin .leq (.tmp 29) (.c (.t (.i .i64 32))), (some (27, true))⟩),
  (22, ⟨(some 31), .pick (.tmp 27) (.tmp 30) (.c (.t (.b false))), none⟩),
  (23, ⟨(some 32), .mv (.tmp 31), none⟩),
  (24, ⟨(some 33), .fad 1 (.tmp 2), (some (32, true))⟩),
  (25, ⟨(some 34), .load false 1 (.tmp 33), (some (32, true))⟩),
  (26, ⟨(some 35), .mkfn 106 [(.tmp 3)], (some (32, true))⟩),
  (27, ⟨(some 36), .call 105 [(.tmp 34), (.tmp 35)], (some (32, true))⟩),
  (28, ⟨(some 37), .un .not (.tmp 36), (some (32, true))⟩),
  (29, ⟨(some 38), .pick (.tmp 32) (.tmp 37) (.c (.t (.b false))), none⟩),
  (30, ⟨(some 4), .mv (.tmp 38), none⟩)]
abbrev f66r2 : Pc := .reg f66o2 [4] [2, 3]
abbrev f66b : Pc := (.seq f66r0 (.seq f66r1 (.seq f66r2 .ret)))
abbrev f66 : Pfn := ⟨2, 39, [.tmp 4], f66b⟩
def f66K : Array (List Nat) := #[[2, 3], [2, 3, 5], [4]]
def f66H : Array (List Nat) := #[[], [], [2, 3]]
def f66A : Ann := ⟨fun r => f66K.getD r [], fun r => f66H.getD r [], fun r i => ([] : List (Nat × Nat)).contains (r, i)⟩
theorem f66C : compF Go.Proofs.Tryz.prog f66A 66 = some f66 := by kernel_rfl

/-- slices.ContainsFunc[[][]int,[]int] -/
abbrev f67o0 : List (Nat × Pop) := [
  (0, ⟨(some 4), .mv (.c (.t (.b false))), none⟩)]
abbrev f67r0 : Pc := .reg f67o0 [0, 1] []
abbrev f67o1 : List (Nat × Pop) := [
  (0, ⟨(some 5), .mv (.tmp 0), none⟩),
  (1, ⟨(some 6), .mv (.tmp 1), none⟩),
  (2, ⟨(some 7), .call 108 [(.tmp 5), (.tmp 6)], none⟩),
  (3, ⟨(some 8), .bin .geq (.tmp 7) (.c (.t (.i .i64 0))), none⟩),
  (4, ⟨(some 4), .mv (.tmp 8), none⟩)]
abbrev f67r1 : Pc := .reg f67o1 [4] []
abbrev f67b : Pc := (.seq f67r0 (.seq f67r1 .ret))
abbrev f67 : Pfn := ⟨2, 9, [.tmp 4], f67b⟩
def f67K : Array (List Nat) := #[[0, 1], [4]]
def f67H : Array (List Nat) := #[[], []]
def f67A : Ann := ⟨fun r => f67K.getD r [], fun r => f67H.getD r [], fun r i => ([] : List (Nat × Nat)).contains (r, i)⟩
theorem f67C : compF Go.Proofs.Tryz.prog f67A 67 = some f67 := by kernel_rfl

/-- switchboard/model.Tokens$1 -/
abbrev f68o0 : List (Nat × Pop) := [
  (0, ⟨(some 3), .mv (.c (.t (.b false))), none⟩)]
abbrev f68r0 : Pc := .reg f68o0 [0, 1] []
abbrev f68o1 : List (Nat × Pop) := [
  (0, ⟨(some 4), .mv (.tmp 0), none⟩),
  (1, ⟨(some 5), .lenL (.tmp 4), none⟩),
  (2, ⟨(some 6), .fad 0 (.tmp 1), none⟩),
  (3, ⟨(some 7), .load false 1 (.tmp 6), none⟩),
  (4, ⟨(some 8), .bin .neq (.tmp 5) (.tmp 7), none⟩),
  (5, ⟨(some 9), .mv (.tmp 8), none⟩),
  (6, ⟨(some 10), .mv (.tmp 0), (some (9, false))⟩),
  (7, ⟨(some 11), .call 69 [(.tmp 10), (.c (.fn 70 []))], (some (9, false))⟩),
  (8, ⟨(some 12), .pick (.tmp 9) (.c (.t (.b true))) (.tmp 11), none⟩),
  (9, ⟨(some 3), .mv (.tmp 12), none⟩)]
abbrev f68r1 : Pc := .reg f68o1 [3] []
abbrev f68b : Pc := (.seq f68r0 (.seq f68r1 .ret))
abbrev f68 : Pfn := ⟨2, 13, [.tmp 3], f68b⟩
def f68K : Array (List Nat) := #[[0, 1], [3]]
def f68H : Array (List Nat) := #[[], []]
def f68A : Ann := ⟨fun r => f68K.getD r [], fun r => f68H.getD r [], fun r i => ([] : List (Nat × Nat)).contains (r, i)⟩
theorem f68C : compF Go.Proofs.Tryz.prog f68A 68 = some f68 := by kernel_rfl

/-- slices.ContainsFunc[[]int,int] -/
abbrev f69o0 : List (Nat × Pop) := [
  (0, ⟨(some 4), .mv (.c (.t (.b false))), none⟩)]
abbrev f69r0 : Pc := .reg f69o0 [0, 1] []
abbrev f69o1 : List (Nat × Pop) := [
  (0, ⟨(some 5), .mv (.tmp 0), none⟩),
  (1, ⟨(some 6), .mv (.tmp 1), none⟩),
  (2, ⟨(some 7), .call 102 [(.tmp 5), (.tmp 6)], none⟩),
  (3, ⟨(some 8), .bin .geq (.tmp 7) (.c (.t (.i .i64 0))), none⟩),
  (4, ⟨(some 4), .mv (.tmp 8), none⟩)]
abbrev f69r1 : Pc := .reg f69o1 [4] []
abbrev f69b : Pc := (.seq f69r0 (.seq f69r1 .ret))
abbrev f69 : Pfn := ⟨2, 9, [.tmp 4], f69b⟩
def f69K : Array (List Nat) := #[[0, 1], [4]]
def f69H : Array (List Nat) := #[[], []]
def f69A : Ann := ⟨fun r => f69K.getD r [], fun r => f69H.getD r [], fun r i => ([] : List (Nat × Nat)).contains (r, i)⟩
theorem f69C : compF Go.Proofs.Tryz.prog f69A 69 = some f69 := by kernel_rfl

/-- switchboard/model.Tokens$1$1 -/
abbrev f70o0 : List (Nat × Pop) := [
  (0, ⟨(some 2), .mv (.c (.t (.b false))), none⟩)]
abbrev f70r0 : Pc := .reg f70o0 [0] []
abbrev f70o1 : List (Nat × Pop) := [
  (0, ⟨(some 3), .mv (.tmp 0), none⟩),
  (1, ⟨(some 4), .call 71 [(.tmp 3)], none⟩),
  (2, ⟨(some 5), .mv (.tmp 0), none⟩),
  (3, ⟨(some 6), .bin .neq (.tmp 4) (.tmp 5), none⟩),
  (4, ⟨(some 2), .mv (.tmp 6), none⟩)]
abbrev f70r1 : Pc := .reg f70o1 [2] []
abbrev f70b : Pc := (.seq f70r0 (.seq f70r1 .ret))
abbrev f70 : Pfn := ⟨1, 7, [.tmp 2], f70b⟩
def f70K : Array (List Nat) := #[[0], [2]]
def f70H : Array (List Nat) := #[[], []]
def f70A : Ann := ⟨fun r => f70K.getD r [], fun r => f70H.getD r [], fun r i => ([] : List (Nat × Nat)).contains (r, i)⟩
theorem f70C : compF Go.Proofs.Tryz.prog f70A 70 = some f70 := by kernel_rfl

/-- switchboard/fix.Hold -/
abbrev f71o0 : List (Nat × Pop) := [
  (0, ⟨(some 2), .mv (.c (.t (.i .i64 0))), none⟩)]
abbrev f71r0 : Pc := .reg f71o0 [0] []
abbrev f71o1 : List (Nat × Pop) := [
  (0, ⟨(some 3), .mv (.tmp 0), none⟩),
  (1, ⟨(some 4), .mm false [(.c (.t (.i .i64 2147483647))), (.tmp 3)], none⟩),
  (2, ⟨(some 5), .mm true [(.c (.t (.i .i64 (-2147483647)))), (.tmp 4)], none⟩),
  (3, ⟨(some 2), .mv (.tmp 5), none⟩)]
abbrev f71r1 : Pc := .reg f71o1 [2] []
abbrev f71b : Pc := (.seq f71r0 (.seq f71r1 .ret))
abbrev f71 : Pfn := ⟨1, 6, [.tmp 2], f71b⟩
def f71K : Array (List Nat) := #[[0], [2]]
def f71H : Array (List Nat) := #[[], []]
def f71A : Ann := ⟨fun r => f71K.getD r [], fun r => f71H.getD r [], fun r i => ([] : List (Nat × Nat)).contains (r, i)⟩
theorem f71C : compF Go.Proofs.Tryz.prog f71A 71 = some f71 := by kernel_rfl

/-- slices.IndexFunc[[]switchboard/api.Layer,switchboard/api.Layer] -/
abbrev f72o0 : List (Nat × Pop) := [
  (0, ⟨(some 4), .mv (.c (.t (.i .i64 0))), none⟩)]
abbrev f72r0 : Pc := .reg f72o0 [0, 1] []
abbrev f72o1 : List (Nat × Pop) := [
  (0, ⟨(some 6), .mv (.tmp 0), none⟩),
  (1, ⟨(some 7), .lenL (.tmp 6), none⟩),
  (2, ⟨(some 8), .mv (.c (.t (.i .i64 0))), none⟩)]
abbrev f72r1 : Pc := .reg f72o1 [0, 1, 7, 8] []
abbrev f72o2 : List (Nat × Pop) := [
  (0, ⟨(some 9), .bin .lss (.tmp 8) (.tmp 7), none⟩)]
abbrev f72r2 : Pc := .reg f72o2 [0, 1, 7, 8, 9] []
abbrev f72o3 : List (Nat × Pop) := [
  (0, ⟨(some 10), .mv (.tmp 8), none⟩),
  (1, ⟨(some 5), .mv (.tmp 10), none⟩)]
abbrev f72r3 : Pc := .reg f72o3 [0, 1, 5, 7, 8] []
abbrev f72o4 : List (Nat × Pop) := [
  (0, ⟨(some 11), .mv (.tmp 1), none⟩),
  (1, ⟨(some 12), .mv (.tmp 0), none⟩),
  (2, ⟨(some 13), .mv (.tmp 5), none⟩),
  (3, ⟨(some 14), .ixS 3 (.tmp 12) (.tmp 13), none⟩),
  (4, ⟨(some 15), .load true 3 (.tmp 14), none⟩),
  (5, ⟨(some 16), .callv (.tmp 11) [(.tmp 15)], none⟩)]
abbrev f72r4 : Pc := .reg f72o4 [0, 1, 5, 7, 8, 16] []
abbrev f72o5 : List (Nat × Pop) := [
  (0, ⟨(some 17), .mv (.tmp 5), none⟩),
  (1, ⟨(some 4), .mv (.tmp 17), none⟩)]
abbrev f72r5 : Pc := .reg f72o5 [4] []
abbrev f72o6 : List (Nat × Pop) := [
  (0, ⟨(some 18), .bin .add (.tmp 8) (.c (.t (.i .i64 1))), none⟩),
  (1, ⟨(some 8), .mv (.tmp 18), none⟩)]
abbrev f72r6 : Pc := .reg f72o6 [0, 1, 7, 8] []
def f72l0 : Pc := (.seq f72r2 (.seq (.cond (.tmp 9) .skip (.exit 0)) (.seq (.block 1 (.seq f72r3 (.seq f72r4 (.cond (.tmp 16) (.seq f72r5 .ret) .skip)))) f72r6)))
theorem f72l0e (C : Cfg) (s : St) : evL C f72l0 s = evL C (.seq f72r2 (.seq (.cond (.tmp 9) .skip (.exit 0)) (.seq (.block 1 (.seq f72r3 (.seq f72r4 (.cond (.tmp 16) (.seq f72r5 .ret) .skip)))) f72r6))) s := rfl
abbrev f72o7 : List (Nat × Pop) := [
  (0, ⟨(some 4), .mv (.c (.t (.i .i64 (-1)))), none⟩)]
abbrev f72r7 : Pc := .reg f72o7 [4] []
abbrev f72b : Pc := (.seq f72r0 (.seq (.seq f72r1 (.block 0 (.loop f72l0))) (.seq f72r7 .ret)))
abbrev f72 : Pfn := ⟨2, 19, [.tmp 4], f72b⟩
def f72K : Array (List Nat) := #[[0, 1], [0, 1, 7, 8], [0, 1, 7, 8, 9], [0, 1, 5, 7, 8], [0, 1, 5, 7, 8, 16], [4], [0, 1, 7, 8], [4]]
def f72H : Array (List Nat) := #[[], [], [], [], [], [], [], []]
def f72A : Ann := ⟨fun r => f72K.getD r [], fun r => f72H.getD r [], fun r i => ([] : List (Nat × Nat)).contains (r, i)⟩
theorem f72C : compF Go.Proofs.Tryz.prog f72A 72 = some f72 := by kernel_rfl


end Go.Proofs.YtbocnaoihepjfaaGreat.Pv
