/- The functions' forms, as the pure evaluator takes them; each is what the program's code gives (kernel_rfl). -/
import Derived.Test.YtchjpboiebdabaaComp
import Derived.Test.YtchjpboiebdabaaRet
import Derived.Test.YtchjpboiebdabaaProg
import Derived.KernelRfl
namespace Go.Proofs.Ytchjpboiebdabaa.Pv
open Go Go.Pev
/-- switchboard/switchboardlaw09.WindowExact -/
abbrev f9o0 : List (Nat × Pop) := [
  (0, ⟨(some 2), .box 49 2 (.tmp 0), none⟩),
  (1, ⟨(some 4), .mv (.c (.t (.b false))), none⟩)]
abbrev f9r0 : Pc := .reg f9o0 [1, 2] []
abbrev f9o1 : List (Nat × Pop) := [
  (0, ⟨(some 10), .fad 1 (.tmp 2), none⟩),
  (1, ⟨(some 11), .load false 1 (.tmp 10), none⟩),
  (2, ⟨(some 12), .lenL (.tmp 11), none⟩),
  (3, ⟨(some 13), .bin .gtr (.tmp 12) (.c (.t (.i .i64 100))), none⟩)]
abbrev f9r1 : Pc := .reg f9o1 [1, 2, 13] []
abbrev f9o2 : List (Nat × Pop) := [
  (0, ⟨(some 14), .call 28 [], none⟩),
  (1, ⟨(some 4), .mv (.tmp 14), none⟩)]
abbrev f9r2 : Pc := .reg f9o2 [4] [2]
abbrev f9o3 : List (Nat × Pop) := [
  (0, ⟨(some 15), .load true 2 (.tmp 2), none⟩),
  (1, ⟨(some 5), .alloc 50 [(.t (.i .i64 0)), .nl], none⟩),
  (2, ⟨none, .store 2 (.tmp 5) (.tmp 15), none⟩)]
abbrev f9r3 : Pc := .reg f9o3 [1, 2, 5] []
abbrev f9o4 : List (Nat × Pop) := [
  (0, ⟨(some 17), .load true 2 (.tmp 2), none⟩),
  (1, ⟨(some 18), .mv (.tmp 1), none⟩),
  (2, ⟨(some 19), .call 29 [(.tmp 17), (.tmp 18)], none⟩),
  (3, ⟨(some 16), .mv (.tmp 19), none⟩),
  (4, ⟨(some 20), .ext 0 (.tmp 16), none⟩),
  (5, ⟨(some 21), .ext 1 (.tmp 16), none⟩),
  (6, ⟨(some 6), .alloc 49 [(.t (.i .i64 0)), .nl], none⟩),
  (7, ⟨none, .store 2 (.tmp 6) (.tmp 20), none⟩),
  (8, ⟨(some 7), .mv (.tmp 21), none⟩)]
abbrev f9r4 : Pc := .reg f9o4 [1, 2, 5, 6, 7] []
abbrev f9o5 : List (Nat × Pop) := [
  (0, ⟨(some 23), .load true 2 (.tmp 5), none⟩),
  (1, ⟨(some 24), .mv (.tmp 1), none⟩),
  (2, ⟨(some 25), .call 30 [(.tmp 23), (.tmp 24)], none⟩),
  (3, ⟨(some 22), .mv (.tmp 25), none⟩),
  (4, ⟨(some 26), .ext 0 (.tmp 22), none⟩),
  (5, ⟨(some 27), .ext 1 (.tmp 22), none⟩),
  (6, ⟨(some 8), .alloc 50 [(.t (.i .i64 0)), .nl], none⟩),
  (7, ⟨none, .store 2 (.tmp 8) (.tmp 26), none⟩),
  (8, ⟨(some 9), .mv (.tmp 27), none⟩)]
abbrev f9r5 : Pc := .reg f9o5 [2, 5, 6, 7, 8, 9] []
abbrev f9o6 : List (Nat × Pop) := [
  (0, ⟨(some 28), .load true 2 (.tmp 6), none⟩),
  (1, ⟨(some 29), .load true 2 (.tmp 8), none⟩),
  (2, ⟨(some 30), .callq 31 [(.tmp 28), (.tmp 29)], none⟩),
  (3, ⟨(some 31), .mv (.tmp 30), none⟩),
  (4, ⟨(some 32), .mv (.tmp 7), (some (31, true))⟩),
  (5, ⟨(some 33), .mv (.tmp 9), (some (31, true))⟩),
  (6, ⟨(some 34), .beq false (.tmp 32) (.tmp 33), (some (31, true))⟩),
  (7, ⟨(some 35), .pick (.tmp 31) (.tmp 34) (.c (.t (.b false))), none⟩),
  (8, ⟨(some 36), .mv (.tmp 35), none⟩),
  (9, ⟨(some 37), .load true 2 (.tmp 2), (some (36, true))⟩),
  (10, ⟨(some 38), .callq 32 [(.tmp 37)], (some (36, true))⟩),
  (11, ⟨(some 39), .load true 2 (.tmp 5), (some (36, true))⟩),
  (12, ⟨(some 40), .callq 33 [(.tmp 39)], (some (36, true))⟩),
  (13, ⟨(some 41), .beq false (.tmp 38) (.tmp 40), (some (36, true))⟩),
  (14, ⟨(some 42), .pick (.tmp 36) (.tmp 41) (.c (.t (.b false))), none⟩),
  (15, ⟨(some 43), .mv (.tmp 42), none⟩),
  (16, ⟨(some 44), .callq 28 [], (some (43, true))⟩),
  (17, ⟨(some 45), .pick (.tmp 43) (.tmp 44) (.c (.t (.b false))), none⟩),
  (18, ⟨(some 4), .mv (.tmp 45), none⟩)]
abbrev f9r6 : Pc := .reg f9o6 [4] [2, 5, 6, 8]
abbrev f9b : Pc := (.seq f9r0 (.seq (.seq f9r1 (.cond (.tmp 13) (.seq f9r2 .ret) .skip)) (.seq f9r3 (.seq f9r4 (.seq f9r5 (.seq f9r6 .ret))))))
abbrev f9 : Pfn := ⟨2, 46, [.tmp 4], f9b⟩
def f9K : Array (List Nat) := #[[1, 2], [1, 2, 13], [4], [1, 2, 5], [1, 2, 5, 6, 7], [2, 5, 6, 7, 8, 9], [4]]
def f9H : Array (List Nat) := #[[], [], [2], [], [], [], [2, 5, 6, 8]]
def f9A : Ann := ⟨fun r => f9K.getD r [], fun r => f9H.getD r [], fun r i => ([] : List (Nat × Nat)).contains (r, i)⟩
theorem f9C : compF Go.Proofs.Try.prog f9A 9 = some f9 := by kernel_rfl

/-- switchboard/switchboardlaw09.WindowOnce -/
abbrev f10o0 : List (Nat × Pop) := [
  (0, ⟨(some 2), .mv (.c (.t (.b false))), none⟩)]
abbrev f10r0 : Pc := .reg f10o0 [0] []
abbrev f10o1 : List (Nat × Pop) := [
  (0, ⟨(some 3), .alloc 49 [(.t (.i .i64 0)), .nl], none⟩)]
abbrev f10r1 : Pc := .reg f10o1 [0, 3] []
abbrev f10o2 : List (Nat × Pop) := [
  (0, ⟨(some 4), .alloc 59 [(.t (.b false)), (.t (.b false)), (.t (.b false)), (.t (.b false)), (.t (.b false)), (.t (.b false)), (.t (.b false)), (.t (.b false)), (.t (.b false)), (.t (.b false)), (.t (.b false)), (.t (.b false)), (.t (.b false)), (.t (.b false)), (.t (.b false)), (.t (.b false)), (.t (.b false)), (.t (.b false)), (.t (.b false)), (.t (.b false)), (.t (.b false)), (.t (.b false)), (.t (.b false)), (.t (.b false)), (.t (.b false)), (.t (.b false)), (.t (.b false)), (.t (.b false)), (.t (.b false)), (.t (.b false)), (.t (.b false)), (.t (.b false)), (.t (.b false)), (.t (.b false)), (.t (.b false)), (.t (.b false)), (.t (.b false)), (.t (.b false)), (.t (.b false)), (.t (.b false)), (.t (.b false)), (.t (.b false)), (.t (.b false)), (.t (.b false)), (.t (.b false)), (.t (.b false)), (.t (.b false)), (.t (.b false)), (.t (.b false)), (.t (.b false)), (.t (.b false)), (.t (.b false)), (.t (.b false)), (.t (.b false)), (.t (.b false)), (.t (.b false)), (.t (.b false)), (.t (.b false)), (.t (.b false)), (.t (.b false)), (.t (.b false)), (.t (.b false)), (.t (.b false)), (.t (.b false)), (.t (.b false)), (.t (.b false)), (.t (.b false)), (.t (.b false)), (.t (.b false)), (.t (.b false)), (.t (.b false)), (.t (.b false)), (.t (.b false)), (.t (.b false)), (.t (.b false)), (.t (.b false)), (.t (.b false)), (.t (.b false)), (.t (.b false)), (.t (.b false)), (.t (.b false)), (.t (.b false)), (.t (.b false)), (.t (.b false)), (.t (.b false)), (.t (.b false)), (.t (.b false)), (.t (.b false)), (.t (.b false)), (.t (.b false)), (.t (.b false)), (.t (.b false)), (.t (.b false)), (.t (.b false)), (.t (.b false)), (.t (.b false)), (.t (.b false)), (.t (.b false)), (.t (.b false)), (.t (.b false)), (.t (.b false)), (.t (.b false)), (.t (.b false)), (.t (.b false)), (.t (.b false)), (.t (.b false)), (.t (.b false)), (.t (.b false)), (.t (.b false)), (.t (.b false)), (.t (.b false)), (.t (.b false)), (.t (.b false)), (.t (.b false)), (.t (.b false)), (.t (.b false)), (.t (.b false)), (.t (.b false)), (.t (.b false)), (.t (.b false)), (.t (.b false)), (.t (.b false)), (.t (.b false)), (.t (.b false)), (.t (.b false)), (.t (.b false)), (.t (.b false)), (.t (.b false)), (.t (.b false)), (.t (.b false)), (.t (.b false)), (.t (.b false)), (.t (.b false)), (.t (.b false)), (.t (.b false)), (.t (.b false)), (.t (.b false)), (.t (.b false)), (.t (.b false)), (.t (.b false)), (.t (.b false)), (.t (.b false)), (.t (.b false)), (.t (.b false)), (.t (.b false)), (.t (.b false)), (.t (.b false)), (.t (.b false)), (.t (.b false)), (.t (.b false)), (.t (.b false)), (.t (.b false)), (.t (.b false)), (.t (.b false)), (.t (.b false)), (.t (.b false)), (.t (.b false)), (.t (.b false)), (.t (.b false)), (.t (.b false)), (.t (.b false)), (.t (.b false)), (.t (.b false)), (.t (.b false)), (.t (.b false)), (.t (.b false)), (.t (.b false)), (.t (.b false)), (.t (.b false)), (.t (.b false)), (.t (.b false)), (.t (.b false)), (.t (.b false)), (.t (.b false)), (.t (.b false)), (.t (.b false)), (.t (.b false)), (.t (.b false)), (.t (.b false)), (.t (.b false)), (.t (.b false)), (.t (.b false)), (.t (.b false)), (.t (.b false)), (.t (.b false)), (.t (.b false)), (.t (.b false)), (.t (.b false)), (.t (.b false)), (.t (.b false)), (.t (.b false)), (.t (.b false)), (.t (.b false)), (.t (.b false)), (.t (.b false)), (.t (.b false)), (.t (.b false)), (.t (.b false)), (.t (.b false)), (.t (.b false)), (.t (.b false)), (.t (.b false)), (.t (.b false)), (.t (.b false)), (.t (.b false)), (.t (.b false)), (.t (.b false)), (.t (.b false)), (.t (.b false)), (.t (.b false)), (.t (.b false)), (.t (.b false)), (.t (.b false)), (.t (.b false)), (.t (.b false)), (.t (.b false)), (.t (.b false)), (.t (.b false)), (.t (.b false)), (.t (.b false)), (.t (.b false)), (.t (.b false)), (.t (.b false)), (.t (.b false)), (.t (.b false)), (.t (.b false)), (.t (.b false)), (.t (.b false)), (.t (.b false)), (.t (.b false)), (.t (.b false)), (.t (.b false)), (.t (.b false)), (.t (.b false)), (.t (.b false)), (.t (.b false)), (.t (.b false)), (.t (.b false)), (.t (.b false)), (.t (.b false)), (.t (.b false)), (.t (.b false)), (.t (.b false)), (.t (.b false)), (.t (.b false)), (.t (.b false)), (.t (.b false)), (.t (.b false)), (.t (.b false)), (.t (.b false)), (.t (.b false)), (.t (.b false)), (.t (.b false)), (.t (.b false)), (.t (.b false)), (.t (.b false))], none⟩)]
abbrev f10r2 : Pc := .reg f10o2 [0, 3, 4] []
abbrev f10o3 : List (Nat × Pop) := [
  (0, ⟨(some 5), .mv (.c (.t (.i .i64 0))), none⟩)]
abbrev f10r3 : Pc := .reg f10o3 [0, 3, 4, 5] []
abbrev f10o4 : List (Nat × Pop) := [
  (0, ⟨(some 12), .mv (.tmp 5), none⟩),
  (1, ⟨(some 13), .mv (.tmp 0), none⟩),
  (2, ⟨(some 14), .lenL (.tmp 13), none⟩),
  (3, ⟨(some 15), .bin .lss (.tmp 12) (.tmp 14), none⟩),
  (4, ⟨(some 16), .mv (.tmp 15), none⟩),
  (5, ⟨(some 17), .mv (.tmp 5), (some (16, true))⟩),
  (6, ⟨(some 18), .bin .lss (.tmp 17) (.c (.t (.i .i64 200))), (some (16, true))⟩),
  (7, ⟨(some 19), .pick (.tmp 16) (.tmp 18) (.c (.t (.b false))), none⟩)]
abbrev f10r4 : Pc := .reg f10o4 [0, 3, 4, 5, 19] []
abbrev f10o6 : List (Nat × Pop) := [
  (0, ⟨(some 23), .load true 2 (.tmp 3), none⟩),
  (1, ⟨(some 24), .mv (.tmp 0), none⟩),
  (2, ⟨(some 25), .mv (.tmp 5), none⟩),
  (3, ⟨(some 26), .ixS 1 (.tmp 24) (.tmp 25), none⟩),
  (4, ⟨(some 27), .load false 1 (.tmp 26), none⟩),
  (5, ⟨(some 28), .cvi .i64 (.tmp 27), none⟩),
  (6, ⟨(some 29), .callq 29 [(.tmp 23), (.tmp 28)], none⟩),
  (7, ⟨(some 22), .mv (.tmp 29), none⟩),
  (8, ⟨(some 30), .ext 0 (.tmp 22), none⟩),
  (9, ⟨(some 31), .ext 1 (.tmp 22), none⟩),
  (10, ⟨(some 6), .alloc 49 [(.t (.i .i64 0)), .nl], none⟩),
  (11, ⟨none, .store 2 (.tmp 6) (.tmp 30), none⟩),
  (12, ⟨(some 7), .mv (.tmp 31), none⟩)]
abbrev f10r6 : Pc := .reg f10o6 [0, 3, 4, 5, 6, 7] []
abbrev f10o7 : List (Nat × Pop) := [
  (0, ⟨(some 32), .mv (.tmp 7), none⟩),
  (1, ⟨(some 33), .mv (.tmp 32), none⟩),
  (2, ⟨(some 34), .mv (.tmp 0), (some (33, true))⟩),
  (3, ⟨(some 35), .mv (.tmp 5), (some (33, true))⟩),
  (4, ⟨(some 36), .ixS 1 (.tmp 34) (.tmp 35), (some (33, true))⟩),
  (5, ⟨(some 37), .load false 1 (.tmp 36), (some (33, true))⟩),
  (6, ⟨(some 38), .ixA 256 1 (.tmp 4) (.tmp 37), (some (33, true))⟩),
  (7, ⟨(some 39), .load false 1 (.tmp 38), (some (33, true))⟩),
  (8, ⟨(some 40), .pick (.tmp 33) (.tmp 39) (.c (.t (.b false))), none⟩),
  (9, ⟨(some 41), .mv (.tmp 40), none⟩),
  (10, ⟨(some 42), .load true 2 (.tmp 6), (some (41, false))⟩),
  (11, ⟨(some 43), .call 32 [(.tmp 42)], (some (41, false))⟩),
  (12, ⟨(some 44), .un .not (.tmp 43), (some (41, false))⟩),
  (13, ⟨(some 45), .pick (.tmp 41) (.c (.t (.b true))) (.tmp 44), none⟩)]
abbrev f10r7 : Pc := .reg f10o7 [0, 3, 4, 5, 6, 7, 45] []
abbrev f10o8 : List (Nat × Pop) := [
  (0, ⟨(some 2), .mv (.c (.t (.b false))), none⟩)]
abbrev f10r8 : Pc := .reg f10o8 [2] [3, 4, 6]
abbrev f10o9 : List (Nat × Pop) := [
  (0, ⟨(some 46), .mv (.tmp 0), none⟩),
  (1, ⟨(some 47), .mv (.tmp 5), none⟩),
  (2, ⟨(some 48), .ixS 1 (.tmp 46) (.tmp 47), none⟩),
  (3, ⟨(some 49), .load false 1 (.tmp 48), none⟩),
  (4, ⟨(some 50), .mv (.tmp 0), none⟩),
  (5, ⟨(some 51), .mv (.tmp 5), none⟩),
  (6, ⟨(some 52), .ixS 1 (.tmp 50) (.tmp 51), none⟩),
  (7, ⟨(some 53), .load false 1 (.tmp 52), none⟩),
  (8, ⟨(some 54), .ixA 256 1 (.tmp 4) (.tmp 53), none⟩),
  (9, ⟨(some 55), .load false 1 (.tmp 54), none⟩),
  (10, ⟨(some 56), .mv (.tmp 55), none⟩),
  (11, ⟨(some 57), .mv (.tmp 7), (some (56, false))⟩),
  (12, ⟨(some 58), .pick (.tmp 56) (.c (.t (.b true))) (.tmp 57), none⟩),
  (13, ⟨(some 59), .ixA 256 1 (.tmp 4) (.tmp 49), none⟩),
  (14, ⟨none, .store 1 (.tmp 59) (.tmp 58), none⟩)]
abbrev f10r9 : Pc := .reg f10o9 [0, 3, 4, 5, 6] []
abbrev f10o10 : List (Nat × Pop) := [
  (0, ⟨(some 60), .load true 2 (.tmp 6), none⟩),
  (1, ⟨none, .store 2 (.tmp 3) (.tmp 60), none⟩)]
abbrev f10r10 : Pc := .reg f10o10 [0, 3, 4, 5] [6]
abbrev f10o5 : List (Nat × Pop) := [
  (0, ⟨(some 20), .mv (.tmp 5), none⟩),
  (1, ⟨(some 21), .bin .add (.tmp 20) (.c (.t (.i .i64 1))), none⟩),
  (2, ⟨(some 5), .mv (.tmp 21), none⟩)]
abbrev f10r5 : Pc := .reg f10o5 [0, 3, 4, 5] []
def f10l0 : Pc := (.seq (.seq f10r4 (.cond (.tmp 19) .skip (.exit 0))) (.seq (.block 1 (.seq f10r6 (.seq (.seq f10r7 (.cond (.tmp 45) (.seq f10r8 .ret) .skip)) (.seq f10r9 f10r10)))) f10r5))
theorem f10l0e (C : Cfg) (s : St) : evL C f10l0 s = evL C (.seq (.seq f10r4 (.cond (.tmp 19) .skip (.exit 0))) (.seq (.block 1 (.seq f10r6 (.seq (.seq f10r7 (.cond (.tmp 45) (.seq f10r8 .ret) .skip)) (.seq f10r9 f10r10)))) f10r5)) s := rfl
abbrev f10o11 : List (Nat × Pop) := [
  (0, ⟨(some 8), .alloc 49 [(.t (.i .i64 0)), .nl], none⟩)]
abbrev f10r11 : Pc := .reg f10o11 [8] [3, 4]
abbrev f10o12 : List (Nat × Pop) := [
  (0, ⟨(some 61), .mv (.c (.t (.i .i64 0))), none⟩)]
abbrev f10r12 : Pc := .reg f10o12 [8, 61] []
abbrev f10o13 : List (Nat × Pop) := [
  (0, ⟨(some 62), .bin .lss (.tmp 61) (.c (.t (.i .i64 50))), none⟩)]
abbrev f10r13 : Pc := .reg f10o13 [8, 61, 62] []
abbrev f10o14 : List (Nat × Pop) := [
  (0, ⟨(some 63), .mv (.tmp 61), none⟩),
  (1, ⟨(some 9), .mv (.tmp 63), none⟩)]
abbrev f10r14 : Pc := .reg f10o14 [8, 9, 61] []
abbrev f10o15 : List (Nat × Pop) := [
  (0, ⟨(some 65), .load true 2 (.tmp 8), none⟩),
  (1, ⟨(some 66), .mv (.tmp 9), none⟩),
  (2, ⟨(some 67), .call 29 [(.tmp 65), (.tmp 66)], none⟩),
  (3, ⟨(some 64), .mv (.tmp 67), none⟩),
  (4, ⟨(some 68), .ext 0 (.tmp 64), none⟩),
  (5, ⟨(some 69), .ext 1 (.tmp 64), none⟩),
  (6, ⟨(some 10), .alloc 49 [(.t (.i .i64 0)), .nl], none⟩),
  (7, ⟨none, .store 2 (.tmp 10) (.tmp 68), none⟩),
  (8, ⟨(some 11), .mv (.tmp 69), none⟩)]
abbrev f10r15 : Pc := .reg f10o15 [8, 9, 10, 11, 61] []
abbrev f10o16 : List (Nat × Pop) := [
  (0, ⟨(some 70), .mv (.tmp 11), none⟩),
  (1, ⟨(some 71), .un .not (.tmp 70), none⟩),
  (2, ⟨(some 72), .mv (.tmp 71), none⟩),
  (3, ⟨(some 73), .fad 0 (.tmp 10), (some (72, false))⟩),
  (4, ⟨(some 74), .load false 1 (.tmp 73), (some (72, false))⟩),
  (5, ⟨(some 75), .mv (.tmp 9), (some (72, false))⟩),
  (6, ⟨(some 76), .bin .add (.tmp 75) (.c (.t (.i .i64 1))), (some (72, false))⟩),
  (7, ⟨(some 77), .bin .neq (.tmp 74) (.tmp 76), (some (72, false))⟩),
  (8, ⟨(some 78), .pick (.tmp 72) (.c (.t (.b true))) (.tmp 77), none⟩),
  (9, ⟨(some 79), .mv (.tmp 78), none⟩),
  (10, ⟨(some 80), .fad 1 (.tmp 10), (some (79, false))⟩),
  (11, ⟨(some 81), .load false 1 (.tmp 80), (some (79, false))⟩),
  (12, ⟨(some 82), .lenL (.tmp 81), (some (79, false))⟩),
  (13, ⟨(some 83), .bin .neq (.tmp 82) (.c (.t (.i .i64 0))), (some (79, false))⟩),
  (14, ⟨(some 84), .pick (.tmp 79) (.c (.t (.b true))) (.tmp 83), none⟩)]
abbrev f10r16 : Pc := .reg f10o16 [8, 10, 61, 84] []
abbrev f10o17 : List (Nat × Pop) := [
  (0, ⟨(some 2), .mv (.c (.t (.b false))), none⟩)]
abbrev f10r17 : Pc := .reg f10o17 [2] [8, 10]
abbrev f10o18 : List (Nat × Pop) := [
  (0, ⟨(some 85), .load true 2 (.tmp 10), none⟩),
  (1, ⟨none, .store 2 (.tmp 8) (.tmp 85), none⟩)]
abbrev f10r18 : Pc := .reg f10o18 [8, 61] [10]
abbrev f10o19 : List (Nat × Pop) := [
  (0, ⟨(some 86), .bin .add (.tmp 61) (.c (.t (.i .i64 1))), none⟩),
  (1, ⟨(some 61), .mv (.tmp 86), none⟩)]
abbrev f10r19 : Pc := .reg f10o19 [8, 61] []
def f10l1 : Pc := (.seq f10r13 (.seq (.cond (.tmp 62) .skip (.exit 2)) (.seq (.block 3 (.seq f10r14 (.seq f10r15 (.seq (.seq f10r16 (.cond (.tmp 84) (.seq f10r17 .ret) .skip)) f10r18)))) f10r19)))
theorem f10l1e (C : Cfg) (s : St) : evL C f10l1 s = evL C (.seq f10r13 (.seq (.cond (.tmp 62) .skip (.exit 2)) (.seq (.block 3 (.seq f10r14 (.seq f10r15 (.seq (.seq f10r16 (.cond (.tmp 84) (.seq f10r17 .ret) .skip)) f10r18)))) f10r19))) s := rfl
abbrev f10o20 : List (Nat × Pop) := [
  (0, ⟨(some 87), .call 28 [], none⟩),
  (1, ⟨(some 2), .mv (.tmp 87), none⟩)]
abbrev f10r20 : Pc := .reg f10o20 [2] [8]
abbrev f10b : Pc := (.seq f10r0 (.seq f10r1 (.seq f10r2 (.seq (.seq f10r3 (.block 0 (.loop f10l0))) (.seq f10r11 (.seq (.seq f10r12 (.block 2 (.loop f10l1))) (.seq f10r20 .ret)))))))
abbrev f10 : Pfn := ⟨1, 88, [.tmp 2], f10b⟩
def f10K : Array (List Nat) := #[[0], [0, 3], [0, 3, 4], [0, 3, 4, 5], [0, 3, 4, 5, 19], [0, 3, 4, 5], [0, 3, 4, 5, 6, 7], [0, 3, 4, 5, 6, 7, 45], [2], [0, 3, 4, 5, 6], [0, 3, 4, 5], [8], [8, 61], [8, 61, 62], [8, 9, 61], [8, 9, 10, 11, 61], [8, 10, 61, 84], [2], [8, 61], [8, 61], [2]]
def f10H : Array (List Nat) := #[[], [], [], [], [], [], [], [], [3, 4, 6], [], [6], [3, 4], [], [], [], [], [], [8, 10], [10], [], [8]]
def f10A : Ann := ⟨fun r => f10K.getD r [], fun r => f10H.getD r [], fun r i => ([] : List (Nat × Nat)).contains (r, i)⟩
theorem f10C : compF Go.Proofs.Try.prog f10A 10 = some f10 := by kernel_rfl

/-- switchboard/switchboardlaw09.WindowTurn -/
abbrev f11o0 : List (Nat × Pop) := [
  (0, ⟨(some 4), .mv (.c (.t (.b false))), none⟩)]
abbrev f11r0 : Pc := .reg f11o0 [0, 1] []
abbrev f11o1 : List (Nat × Pop) := [
  (0, ⟨(some 5), .alloc 49 [(.t (.i .i64 0)), .nl], none⟩)]
abbrev f11r1 : Pc := .reg f11o1 [0, 1, 5] []
abbrev f11o2 : List (Nat × Pop) := [
  (0, ⟨(some 11), .mv (.tmp 1), none⟩),
  (1, ⟨(some 12), .cvi .i64 (.tmp 11), none⟩),
  (2, ⟨(some 13), .bin .rem (.tmp 12) (.c (.t (.i .i64 32))), none⟩),
  (3, ⟨(some 6), .mv (.tmp 13), none⟩)]
abbrev f11r2 : Pc := .reg f11o2 [0, 5, 6] []
abbrev f11o3 : List (Nat × Pop) := [
  (0, ⟨(some 14), .mv (.c (.t (.i .i64 0))), none⟩)]
abbrev f11r3 : Pc := .reg f11o3 [0, 5, 6, 14] []
abbrev f11o4 : List (Nat × Pop) := [
  (0, ⟨(some 15), .bin .lss (.tmp 14) (.c (.t (.i .i64 32))), none⟩)]
abbrev f11r4 : Pc := .reg f11o4 [0, 5, 6, 14, 15] []
abbrev f11o5 : List (Nat × Pop) := [
  (0, ⟨(some 17), .load true 2 (.tmp 5), none⟩),
  (1, ⟨(some 18), .mv (.tmp 6), none⟩),
  (2, ⟨(some 19), .call 29 [(.tmp 17), (.tmp 18)], none⟩),
  (3, ⟨(some 16), .mv (.tmp 19), none⟩),
  (4, ⟨(some 20), .ext 0 (.tmp 16), none⟩),
  (5, ⟨(some 21), .ext 1 (.tmp 16), none⟩),
  (6, ⟨(some 7), .alloc 49 [(.t (.i .i64 0)), .nl], none⟩),
  (7, ⟨none, .store 2 (.tmp 7) (.tmp 20), none⟩),
  (8, ⟨(some 8), .mv (.tmp 21), none⟩)]
abbrev f11r5 : Pc := .reg f11o5 [0, 5, 6, 7, 8, 14] []
abbrev f11o6 : List (Nat × Pop) := [
  (0, ⟨(some 23), .load true 2 (.tmp 7), none⟩),
  (1, ⟨(some 24), .mv (.tmp 6), none⟩),
  (2, ⟨(some 25), .call 29 [(.tmp 23), (.tmp 24)], none⟩),
  (3, ⟨(some 22), .mv (.tmp 25), none⟩),
  (4, ⟨(some 26), .ext 0 (.tmp 22), none⟩),
  (5, ⟨(some 27), .ext 1 (.tmp 22), none⟩),
  (6, ⟨(some 9), .alloc 49 [(.t (.i .i64 0)), .nl], none⟩),
  (7, ⟨none, .store 2 (.tmp 9) (.tmp 26), none⟩),
  (8, ⟨(some 10), .mv (.tmp 27), none⟩)]
abbrev f11r6 : Pc := .reg f11o6 [0, 5, 6, 7, 8, 10, 14] [9]
abbrev f11o7 : List (Nat × Pop) := [
  (0, ⟨(some 28), .mv (.tmp 8), none⟩),
  (1, ⟨(some 29), .un .not (.tmp 28), none⟩),
  (2, ⟨(some 30), .mv (.tmp 29), none⟩),
  (3, ⟨(some 31), .mv (.tmp 10), (some (30, false))⟩),
  (4, ⟨(some 32), .pick (.tmp 30) (.c (.t (.b true))) (.tmp 31), none⟩)]
abbrev f11r7 : Pc := .reg f11o7 [0, 5, 6, 7, 14, 32] []
abbrev f11o8 : List (Nat × Pop) := [
  (0, ⟨(some 4), .mv (.c (.t (.b false))), none⟩)]
abbrev f11r8 : Pc := .reg f11o8 [4] [5, 7]
abbrev f11o9 : List (Nat × Pop) := [
  (0, ⟨(some 33), .load true 2 (.tmp 7), none⟩),
  (1, ⟨none, .store 2 (.tmp 5) (.tmp 33), none⟩)]
abbrev f11r9 : Pc := .reg f11o9 [0, 5, 6, 14] [7]
abbrev f11o10 : List (Nat × Pop) := [
  (0, ⟨(some 34), .mv (.tmp 6), none⟩),
  (1, ⟨(some 35), .mv (.tmp 0), none⟩),
  (2, ⟨(some 36), .cvi .i64 (.tmp 35), none⟩),
  (3, ⟨(some 37), .bin .mul (.c (.t (.i .i64 2))) (.tmp 36), none⟩),
  (4, ⟨(some 38), .bin .add (.tmp 34) (.tmp 37), none⟩),
  (5, ⟨(some 39), .bin .add (.tmp 38) (.c (.t (.i .i64 1))), none⟩),
  (6, ⟨(some 40), .bin .rem (.tmp 39) (.c (.t (.i .i64 32))), none⟩),
  (7, ⟨(some 6), .mv (.tmp 40), none⟩)]
abbrev f11r10 : Pc := .reg f11o10 [0, 5, 6, 14] []
abbrev f11o11 : List (Nat × Pop) := [
  (0, ⟨(some 41), .bin .add (.tmp 14) (.c (.t (.i .i64 1))), none⟩),
  (1, ⟨(some 14), .mv (.tmp 41), none⟩)]
abbrev f11r11 : Pc := .reg f11o11 [0, 5, 6, 14] []
def f11l0 : Pc := (.seq f11r4 (.seq (.cond (.tmp 15) .skip (.exit 0)) (.seq (.block 1 (.seq f11r5 (.seq f11r6 (.seq (.seq f11r7 (.cond (.tmp 32) (.seq f11r8 .ret) .skip)) (.seq f11r9 f11r10))))) f11r11)))
theorem f11l0e (C : Cfg) (s : St) : evL C f11l0 s = evL C (.seq f11r4 (.seq (.cond (.tmp 15) .skip (.exit 0)) (.seq (.block 1 (.seq f11r5 (.seq f11r6 (.seq (.seq f11r7 (.cond (.tmp 32) (.seq f11r8 .ret) .skip)) (.seq f11r9 f11r10))))) f11r11))) s := rfl
abbrev f11o12 : List (Nat × Pop) := [
  (0, ⟨(some 42), .fad 0 (.tmp 5), none⟩),
  (1, ⟨(some 43), .load false 1 (.tmp 42), none⟩),
  (2, ⟨(some 44), .bin .eql (.tmp 43) (.c (.t (.i .i64 32))), none⟩),
  (3, ⟨(some 45), .mv (.tmp 44), none⟩),
  (4, ⟨(some 46), .fad 1 (.tmp 5), (some (45, true))⟩),
  (5, ⟨(some 47), .load false 1 (.tmp 46), (some (45, true))⟩),
  (6, ⟨(some 48), .lenL (.tmp 47), (some (45, true))⟩),
  (7, ⟨(some 49), .bin .eql (.tmp 48) (.c (.t (.i .i64 0))), (some (45, true))⟩),
  (8, ⟨(some 50), .pick (.tmp 45) (.tmp 49) (.c (.t (.b false))), none⟩),
  (9, ⟨(some 51), .mv (.tmp 50), none⟩),
  (10, ⟨(some 52), .call 28 [], (some (51, true))⟩),
  (11, ⟨(some 53), .pick (.tmp 51) (.tmp 52) (.c (.t (.b false))), none⟩),
  (12, ⟨(some 4), .mv (.tmp 53), none⟩)]
abbrev f11r12 : Pc := .reg f11o12 [4] [5]
abbrev f11b : Pc := (.seq f11r0 (.seq f11r1 (.seq f11r2 (.seq (.seq f11r3 (.block 0 (.loop f11l0))) (.seq f11r12 .ret)))))
abbrev f11 : Pfn := ⟨2, 54, [.tmp 4], f11b⟩
def f11K : Array (List Nat) := #[[0, 1], [0, 1, 5], [0, 5, 6], [0, 5, 6, 14], [0, 5, 6, 14, 15], [0, 5, 6, 7, 8, 14], [0, 5, 6, 7, 8, 10, 14], [0, 5, 6, 7, 14, 32], [4], [0, 5, 6, 14], [0, 5, 6, 14], [0, 5, 6, 14], [4]]
def f11H : Array (List Nat) := #[[], [], [], [], [], [], [9], [], [5, 7], [7], [], [], [5]]
def f11A : Ann := ⟨fun r => f11K.getD r [], fun r => f11H.getD r [], fun r i => ([] : List (Nat × Nat)).contains (r, i)⟩
theorem f11C : compF Go.Proofs.Try.prog f11A 11 = some f11 := by kernel_rfl

/-- switchboard/switchboardlaw09.WindowWrong -/
abbrev f12o0 : List (Nat × Pop) := [
  (0, ⟨(some 2), .box 49 2 (.tmp 0), none⟩),
  (1, ⟨(some 4), .mv (.c (.t (.b false))), none⟩)]
abbrev f12r0 : Pc := .reg f12o0 [1, 2] []
abbrev f12o1 : List (Nat × Pop) := [
  (0, ⟨(some 7), .fad 1 (.tmp 2), none⟩),
  (1, ⟨(some 8), .load false 1 (.tmp 7), none⟩),
  (2, ⟨(some 9), .lenL (.tmp 8), none⟩),
  (3, ⟨(some 10), .bin .gtr (.tmp 9) (.c (.t (.i .i64 100))), none⟩),
  (4, ⟨(some 11), .mv (.tmp 10), none⟩),
  (5, ⟨(some 12), .load true 2 (.tmp 2), (some (11, false))⟩),
  (6, ⟨(some 13), .call 32 [(.tmp 12)], (some (11, false))⟩),
  (7, ⟨(some 14), .mv (.tmp 13), (some (11, false))⟩),
  (8, ⟨(some 15), .mv (.tmp 1), (some (14, true))⟩),
  (9, ⟨(some 16), .fad 0 (.tmp 2), (some (14, true))⟩),
  (10, ⟨(some 17), .load false 1 (.tmp 16), (some (14, true))⟩),
  (11, ⟨(some 18), .bin .geq (.tmp 15) (.tmp 17), (some (14, true))⟩),
  (12, ⟨(some 19), .pick (.tmp 14) (.tmp 18) (.c (.t (.b false))), (some (11, false))⟩),
  (13, ⟨(some 20), .pick (.tmp 11) (.c (.t (.b true))) (.tmp 19), none⟩)]
abbrev f12r1 : Pc := .reg f12o1 [1, 2, 20] []
abbrev f12o2 : List (Nat × Pop) := [
  (0, ⟨(some 21), .call 28 [], none⟩),
  (1, ⟨(some 4), .mv (.tmp 21), none⟩)]
abbrev f12r2 : Pc := .reg f12o2 [4] [2]
abbrev f12o3 : List (Nat × Pop) := [
  (0, ⟨(some 23), .load true 2 (.tmp 2), none⟩),
  (1, ⟨(some 24), .mv (.tmp 1), none⟩),
  (2, ⟨(some 25), .call 29 [(.tmp 23), (.tmp 24)], none⟩),
  (3, ⟨(some 22), .mv (.tmp 25), none⟩),
  (4, ⟨(some 26), .ext 0 (.tmp 22), none⟩),
  (5, ⟨(some 27), .ext 1 (.tmp 22), none⟩),
  (6, ⟨(some 5), .alloc 49 [(.t (.i .i64 0)), .nl], none⟩),
  (7, ⟨none, .store 2 (.tmp 5) (.tmp 26), none⟩),
  (8, ⟨(some 6), .mv (.tmp 27), none⟩)]
abbrev f12r3 : Pc := .reg f12o3 [2, 5, 6] []
abbrev f12o4 : List (Nat × Pop) := [
  (0, ⟨(some 28), .mv (.tmp 6), none⟩),
  (1, ⟨(some 29), .un .not (.tmp 28), none⟩),
  (2, ⟨(some 30), .mv (.tmp 29), none⟩),
  (3, ⟨(some 31), .load true 2 (.tmp 5), (some (30, true))⟩),
  (4, ⟨(some 32), .load true 2 (.tmp 2), (some (30, true))⟩),
  (5, ⟨(some 33), .call 31 [(.tmp 31), (.tmp 32)], (some (30, true))⟩),
  (6, ⟨(some 34), .pick (.tmp 30) (.tmp 33) (.c (.t (.b false))), none⟩),
  (7, ⟨(some 35), .mv (.tmp 34), none⟩),
  (8, ⟨(some 36), .call 28 [], (some (35, true))⟩),
  (9, ⟨(some 37), .pick (.tmp 35) (.tmp 36) (.c (.t (.b false))), none⟩),
  (10, ⟨(some 4), .mv (.tmp 37), none⟩)]
abbrev f12r4 : Pc := .reg f12o4 [4] [2, 5]
abbrev f12b : Pc := (.seq f12r0 (.seq (.seq f12r1 (.cond (.tmp 20) (.seq f12r2 .ret) .skip)) (.seq f12r3 (.seq f12r4 .ret))))
abbrev f12 : Pfn := ⟨2, 38, [.tmp 4], f12b⟩
def f12K : Array (List Nat) := #[[1, 2], [1, 2, 20], [4], [2, 5, 6], [4]]
def f12H : Array (List Nat) := #[[], [], [2], [], [2, 5]]
def f12A : Ann := ⟨fun r => f12K.getD r [], fun r => f12H.getD r [], fun r i => ([] : List (Nat × Nat)).contains (r, i)⟩
theorem f12C : compF Go.Proofs.Try.prog f12A 12 = some f12 := by kernel_rfl

/-- switchboard/switchboardlaw09.WindowGap -/
abbrev f13o0 : List (Nat × Pop) := [
  (0, ⟨(some 4), .mv (.c (.t (.b false))), none⟩)]
abbrev f13r0 : Pc := .reg f13o0 [0, 1] []
abbrev f13o1 : List (Nat × Pop) := [
  (0, ⟨(some 5), .alloc 49 [(.t (.i .i64 0)), .nl], none⟩)]
abbrev f13r1 : Pc := .reg f13o1 [0, 1, 5] []
abbrev f13o2 : List (Nat × Pop) := [
  (0, ⟨(some 16), .mv (.tmp 0), none⟩),
  (1, ⟨(some 17), .bin .rem (.tmp 16) (.c (.t (.i .u8 40))), none⟩),
  (2, ⟨(some 18), .cvi .i64 (.tmp 17), none⟩),
  (3, ⟨(some 19), .mv (.tmp 1), none⟩),
  (4, ⟨(some 20), .bin .rem (.tmp 19) (.c (.t (.i .u8 60))), none⟩),
  (5, ⟨(some 21), .cvi .i64 (.tmp 20), none⟩),
  (6, ⟨(some 6), .mv (.tmp 18), none⟩),
  (7, ⟨(some 7), .mv (.tmp 21), none⟩)]
abbrev f13r2 : Pc := .reg f13o2 [5, 6, 7] []
abbrev f13o3 : List (Nat × Pop) := [
  (0, ⟨(some 22), .mv (.tmp 6), none⟩),
  (1, ⟨(some 23), .mv (.c (.t (.i .i64 0))), none⟩)]
abbrev f13r3 : Pc := .reg f13o3 [5, 6, 7, 22, 23] []
abbrev f13o4 : List (Nat × Pop) := [
  (0, ⟨(some 24), .bin .lss (.tmp 23) (.tmp 22), none⟩)]
abbrev f13r4 : Pc := .reg f13o4 [5, 6, 7, 22, 23, 24] []
abbrev f13o5 : List (Nat × Pop) := [
  (0, ⟨(some 25), .mv (.tmp 23), none⟩),
  (1, ⟨(some 8), .mv (.tmp 25), none⟩)]
abbrev f13r5 : Pc := .reg f13o5 [5, 6, 7, 8, 22, 23] []
abbrev f13o6 : List (Nat × Pop) := [
  (0, ⟨(some 27), .load true 2 (.tmp 5), none⟩),
  (1, ⟨(some 28), .mv (.tmp 8), none⟩),
  (2, ⟨(some 29), .call 29 [(.tmp 27), (.tmp 28)], none⟩),
  (3, ⟨(some 26), .mv (.tmp 29), none⟩),
  (4, ⟨(some 30), .ext 0 (.tmp 26), none⟩),
  (5, ⟨(some 31), .ext 1 (.tmp 26), none⟩),
  (6, ⟨none, .store 2 (.tmp 5) (.tmp 30), none⟩)]
abbrev f13r6 : Pc := .reg f13o6 [5, 6, 7, 22, 23] []
abbrev f13o7 : List (Nat × Pop) := [
  (0, ⟨(some 32), .bin .add (.tmp 23) (.c (.t (.i .i64 1))), none⟩),
  (1, ⟨(some 23), .mv (.tmp 32), none⟩)]
abbrev f13r7 : Pc := .reg f13o7 [5, 6, 7, 22, 23] []
def f13l0 : Pc := (.seq f13r4 (.seq (.cond (.tmp 24) .skip (.exit 0)) (.seq (.block 1 (.seq f13r5 f13r6)) f13r7)))
theorem f13l0e (C : Cfg) (s : St) : evL C f13l0 s = evL C (.seq f13r4 (.seq (.cond (.tmp 24) .skip (.exit 0)) (.seq (.block 1 (.seq f13r5 f13r6)) f13r7))) s := rfl
abbrev f13o8 : List (Nat × Pop) := [
  (0, ⟨(some 33), .mv (.tmp 7), none⟩),
  (1, ⟨(some 34), .mv (.c (.t (.i .i64 0))), none⟩)]
abbrev f13r8 : Pc := .reg f13o8 [5, 6, 7, 33, 34] []
abbrev f13o9 : List (Nat × Pop) := [
  (0, ⟨(some 35), .bin .lss (.tmp 34) (.tmp 33), none⟩)]
abbrev f13r9 : Pc := .reg f13o9 [5, 6, 7, 33, 34, 35] []
abbrev f13o10 : List (Nat × Pop) := [
  (0, ⟨(some 36), .mv (.tmp 34), none⟩),
  (1, ⟨(some 9), .mv (.tmp 36), none⟩)]
abbrev f13r10 : Pc := .reg f13o10 [5, 6, 7, 9, 33, 34] []
abbrev f13o11 : List (Nat × Pop) := [
  (0, ⟨(some 38), .load true 2 (.tmp 5), none⟩),
  (1, ⟨(some 39), .mv (.tmp 6), none⟩),
  (2, ⟨(some 40), .bin .add (.tmp 39) (.c (.t (.i .i64 1))), none⟩),
  (3, ⟨(some 41), .mv (.tmp 9), none⟩),
  (4, ⟨(some 42), .bin .add (.tmp 40) (.tmp 41), none⟩),
  (5, ⟨(some 43), .call 29 [(.tmp 38), (.tmp 42)], none⟩),
  (6, ⟨(some 37), .mv (.tmp 43), none⟩),
  (7, ⟨(some 44), .ext 0 (.tmp 37), none⟩),
  (8, ⟨(some 45), .ext 1 (.tmp 37), none⟩),
  (9, ⟨(some 10), .alloc 49 [(.t (.i .i64 0)), .nl], none⟩),
  (10, ⟨none, .store 2 (.tmp 10) (.tmp 44), none⟩),
  (11, ⟨(some 11), .mv (.tmp 45), none⟩)]
abbrev f13r11 : Pc := .reg f13o11 [5, 6, 7, 10, 11, 33, 34] []
abbrev f13o12 : List (Nat × Pop) := [
  (0, ⟨(some 46), .mv (.tmp 11), none⟩),
  (1, ⟨(some 47), .un .not (.tmp 46), none⟩)]
abbrev f13r12 : Pc := .reg f13o12 [5, 6, 7, 10, 33, 34, 47] []
abbrev f13o13 : List (Nat × Pop) := [
  (0, ⟨(some 4), .mv (.c (.t (.b false))), none⟩)]
abbrev f13r13 : Pc := .reg f13o13 [4] [5, 10]
abbrev f13o14 : List (Nat × Pop) := [
  (0, ⟨(some 48), .load true 2 (.tmp 10), none⟩),
  (1, ⟨none, .store 2 (.tmp 5) (.tmp 48), none⟩)]
abbrev f13r14 : Pc := .reg f13o14 [5, 6, 7, 33, 34] [10]
abbrev f13o15 : List (Nat × Pop) := [
  (0, ⟨(some 49), .bin .add (.tmp 34) (.c (.t (.i .i64 1))), none⟩),
  (1, ⟨(some 34), .mv (.tmp 49), none⟩)]
abbrev f13r15 : Pc := .reg f13o15 [5, 6, 7, 33, 34] []
def f13l1 : Pc := (.seq f13r9 (.seq (.cond (.tmp 35) .skip (.exit 2)) (.seq (.block 3 (.seq f13r10 (.seq f13r11 (.seq (.seq f13r12 (.cond (.tmp 47) (.seq f13r13 .ret) .skip)) f13r14)))) f13r15)))
theorem f13l1e (C : Cfg) (s : St) : evL C f13l1 s = evL C (.seq f13r9 (.seq (.cond (.tmp 35) .skip (.exit 2)) (.seq (.block 3 (.seq f13r10 (.seq f13r11 (.seq (.seq f13r12 (.cond (.tmp 47) (.seq f13r13 .ret) .skip)) f13r14)))) f13r15))) s := rfl
abbrev f13o16 : List (Nat × Pop) := [
  (0, ⟨(some 51), .load true 2 (.tmp 5), none⟩),
  (1, ⟨(some 52), .mv (.tmp 6), none⟩),
  (2, ⟨(some 53), .call 29 [(.tmp 51), (.tmp 52)], none⟩),
  (3, ⟨(some 50), .mv (.tmp 53), none⟩),
  (4, ⟨(some 54), .ext 0 (.tmp 50), none⟩),
  (5, ⟨(some 55), .ext 1 (.tmp 50), none⟩),
  (6, ⟨(some 12), .alloc 49 [(.t (.i .i64 0)), .nl], none⟩),
  (7, ⟨none, .store 2 (.tmp 12) (.tmp 54), none⟩),
  (8, ⟨(some 13), .mv (.tmp 55), none⟩)]
abbrev f13r16 : Pc := .reg f13o16 [5, 6, 7, 12, 13] []
abbrev f13o17 : List (Nat × Pop) := [
  (0, ⟨(some 57), .load true 2 (.tmp 12), none⟩),
  (1, ⟨(some 58), .mv (.tmp 6), none⟩),
  (2, ⟨(some 59), .call 29 [(.tmp 57), (.tmp 58)], none⟩),
  (3, ⟨(some 56), .mv (.tmp 59), none⟩),
  (4, ⟨(some 60), .ext 0 (.tmp 56), none⟩),
  (5, ⟨(some 61), .ext 1 (.tmp 56), none⟩),
  (6, ⟨(some 14), .alloc 49 [(.t (.i .i64 0)), .nl], none⟩),
  (7, ⟨none, .store 2 (.tmp 14) (.tmp 60), none⟩),
  (8, ⟨(some 15), .mv (.tmp 61), none⟩)]
abbrev f13r17 : Pc := .reg f13o17 [5, 6, 7, 12, 13, 15] [14]
abbrev f13o18 : List (Nat × Pop) := [
  (0, ⟨(some 62), .mv (.tmp 13), none⟩),
  (1, ⟨(some 63), .mv (.tmp 7), none⟩),
  (2, ⟨(some 64), .bin .leq (.tmp 63) (.c (.t (.i .i64 32))), none⟩),
  (3, ⟨(some 65), .beq true (.tmp 62) (.tmp 64), none⟩),
  (4, ⟨(some 66), .mv (.tmp 65), none⟩),
  (5, ⟨(some 67), .mv (.tmp 15), (some (66, false))⟩),
  (6, ⟨(some 68), .pick (.tmp 66) (.c (.t (.b true))) (.tmp 67), none⟩)]
abbrev f13r18 : Pc := .reg f13o18 [5, 6, 7, 12, 68] []
abbrev f13o19 : List (Nat × Pop) := [
  (0, ⟨(some 4), .mv (.c (.t (.b false))), none⟩)]
abbrev f13r19 : Pc := .reg f13o19 [4] [5, 12]
abbrev f13o20 : List (Nat × Pop) := [
  (0, ⟨(some 69), .mv (.tmp 7), none⟩),
  (1, ⟨(some 70), .bin .gtr (.tmp 69) (.c (.t (.i .i64 32))), none⟩),
  (2, ⟨(some 71), .mv (.tmp 70), none⟩),
  (3, ⟨(some 72), .fad 0 (.tmp 5), (some (71, false))⟩),
  (4, ⟨(some 73), .load false 1 (.tmp 72), (some (71, false))⟩),
  (5, ⟨(some 74), .mv (.tmp 6), (some (71, false))⟩),
  (6, ⟨(some 75), .bin .eql (.tmp 73) (.tmp 74), (some (71, false))⟩),
  (7, ⟨(some 76), .mv (.tmp 75), (some (71, false))⟩),
  (8, ⟨(some 77), .fad 0 (.tmp 12), (some (76, true))⟩),
  (9, ⟨(some 78), .load false 1 (.tmp 77), (some (76, true))⟩),
  (10, ⟨(some 79), .mv (.tmp 6), (some (76, true))⟩),
  (11, ⟨(some 80), .mv (.tmp 7), (some (76, true))⟩),
  (12, ⟨(some 81), .bin .add (.tmp 79) (.tmp 80), (some (76, true))⟩),
  (13, ⟨(some 82), .bin .add (.tmp 81) (.c (.t (.i .i64 1))), (some (76, true))⟩),
  (14, ⟨(some 83), .bin .eql (.tmp 78) (.tmp 82), (some (76, true))⟩),
  (15, ⟨(some 84), .pick (.tmp 76) (.tmp 83) (.c (.t (.b false))), (some (71, false))⟩),
  (16, ⟨(some 85), .pick (.tmp 71) (.c (.t (.b true))) (.tmp 84), none⟩),
  (17, ⟨(some 86), .mv (.tmp 85), none⟩),
  (18, ⟨(some 87), .call 28 [], (some (86, true))⟩),
  (19, ⟨(some 88), .pick (.tmp 86) (.tmp 87) (.c (.t (.b false))), none⟩),
  (20, ⟨(some 4), .mv (.tmp 88), none⟩)]
abbrev f13r20 : Pc := .reg f13o20 [4] [5, 12]
abbrev f13b : Pc := (.seq f13r0 (.seq f13r1 (.seq f13r2 (.seq (.seq f13r3 (.block 0 (.loop f13l0))) (.seq (.seq f13r8 (.block 2 (.loop f13l1))) (.seq f13r16 (.seq f13r17 (.seq (.seq f13r18 (.cond (.tmp 68) (.seq f13r19 .ret) .skip)) (.seq f13r20 .ret)))))))))
abbrev f13 : Pfn := ⟨2, 89, [.tmp 4], f13b⟩
def f13K : Array (List Nat) := #[[0, 1], [0, 1, 5], [5, 6, 7], [5, 6, 7, 22, 23], [5, 6, 7, 22, 23, 24], [5, 6, 7, 8, 22, 23], [5, 6, 7, 22, 23], [5, 6, 7, 22, 23], [5, 6, 7, 33, 34], [5, 6, 7, 33, 34, 35], [5, 6, 7, 9, 33, 34], [5, 6, 7, 10, 11, 33, 34], [5, 6, 7, 10, 33, 34, 47], [4], [5, 6, 7, 33, 34], [5, 6, 7, 33, 34], [5, 6, 7, 12, 13], [5, 6, 7, 12, 13, 15], [5, 6, 7, 12, 68], [4], [4]]
def f13H : Array (List Nat) := #[[], [], [], [], [], [], [], [], [], [], [], [], [], [5, 10], [10], [], [], [14], [], [5, 12], [5, 12]]
def f13A : Ann := ⟨fun r => f13K.getD r [], fun r => f13H.getD r [], fun r i => ([] : List (Nat × Nat)).contains (r, i)⟩
theorem f13C : compF Go.Proofs.Try.prog f13A 13 = some f13 := by kernel_rfl

/-- switchboard/switchboardlaw09.awake -/
abbrev f28o0 : List (Nat × Pop) := [
  (0, ⟨(some 0), .mv (.c (.t (.b false))), none⟩)]
abbrev f28r0 : Pc := .reg f28o0 [] []
abbrev f28o1 : List (Nat × Pop) := [
  (0, ⟨(some 6), .build [(.t (.i .i64 0)), .nl] [], none⟩),
  (1, ⟨(some 7), .call 29 [(.tmp 6), (.c (.t (.i .i64 0)))], none⟩),
  (2, ⟨(some 5), .mv (.tmp 7), none⟩),
  (3, ⟨(some 8), .ext 0 (.tmp 5), none⟩),
  (4, ⟨(some 9), .ext 1 (.tmp 5), none⟩),
  (5, ⟨(some 1), .alloc 49 [(.t (.i .i64 0)), .nl], none⟩),
  (6, ⟨none, .store 2 (.tmp 1) (.tmp 8), none⟩),
  (7, ⟨(some 2), .mv (.tmp 9), none⟩)]
abbrev f28r1 : Pc := .reg f28o1 [1, 2] []
abbrev f28o2 : List (Nat × Pop) := [
  (0, ⟨(some 11), .load true 2 (.tmp 1), none⟩),
  (1, ⟨(some 12), .call 29 [(.tmp 11), (.c (.t (.i .i64 0)))], none⟩),
  (2, ⟨(some 10), .mv (.tmp 12), none⟩),
  (3, ⟨(some 13), .ext 0 (.tmp 10), none⟩),
  (4, ⟨(some 14), .ext 1 (.tmp 10), none⟩),
  (5, ⟨(some 3), .alloc 49 [(.t (.i .i64 0)), .nl], none⟩),
  (6, ⟨none, .store 2 (.tmp 3) (.tmp 13), none⟩),
  (7, ⟨(some 4), .mv (.tmp 14), none⟩)]
abbrev f28r2 : Pc := .reg f28o2 [1, 2, 4] [3]
abbrev f28o3 : List (Nat × Pop) := [
  (0, ⟨(some 15), .mv (.tmp 2), none⟩),
  (1, ⟨(some 16), .mv (.tmp 15), none⟩),
  (2, ⟨(some 17), .mv (.tmp 4), (some (16, true))⟩),
  (3, ⟨(some 18), .un .not (.tmp 17), (some (16, true))⟩),
  (4, ⟨(some 19), .pick (.tmp 16) (.tmp 18) (.c (.t (.b false))), none⟩),
  (5, ⟨(some 20), .mv (.tmp 19), none⟩),
  (6, ⟨(some 21), .fad 0 (.tmp 1), (some (20, true))⟩),
  (7, ⟨(some 22), .load false 1 (.tmp 21), (some (20, true))⟩),
  (8, ⟨(some 23), .bin .eql (.tmp 22) (.c (.t (.i .i64 1))), (some (20, true))⟩),
  (9, ⟨(some 24), .pick (.tmp 20) (.tmp 23) (.c (.t (.b false))), none⟩),
  (10, ⟨(some 25), .mv (.tmp 24), none⟩),
  (11, ⟨(some 26), .fad 1 (.tmp 1), (some (25, true))⟩),
  (12, ⟨(some 27), .load false 1 (.tmp 26), (some (25, true))⟩),
  (13, ⟨(some 28), .lenL (.tmp 27), (some (25, true))⟩),
  (14, ⟨(some 29), .bin .eql (.tmp 28) (.c (.t (.i .i64 0))), (some (25, true))⟩),
  (15, ⟨(some 30), .pick (.tmp 25) (.tmp 29) (.c (.t (.b false))), none⟩),
  (16, ⟨(some 31), .mv (.tmp 30), none⟩),
  (17, ⟨(some 32), .load true 2 (.tmp 1), (some (31, true))⟩),
  (18, ⟨(some 33), .call 32 [(.tmp 32)], (some (31, true))⟩),
  (19, ⟨(some 34), .pick (.tmp 31) (.tmp 33) (.c (.t (.b false))), none⟩),
  (20, ⟨(some 0), .mv (.tmp 34), none⟩)]
abbrev f28r3 : Pc := .reg f28o3 [0] [1]
abbrev f28b : Pc := (.seq f28r0 (.seq f28r1 (.seq f28r2 (.seq f28r3 .ret))))
abbrev f28 : Pfn := ⟨0, 35, [.tmp 0], f28b⟩
def f28K : Array (List Nat) := #[[], [1, 2], [1, 2, 4], [0]]
def f28H : Array (List Nat) := #[[], [], [3], [1]]
def f28A : Ann := ⟨fun r => f28K.getD r [], fun r => f28H.getD r [], fun r i => ([] : List (Nat × Nat)).contains (r, i)⟩
theorem f28C : compF Go.Proofs.Try.prog f28A 28 = some f28 := by kernel_rfl

/-- switchboard/window.Accept -/
abbrev f29o0 : List (Nat × Pop) := [
  (0, ⟨(some 2), .box 49 2 (.tmp 0), none⟩),
  (1, ⟨(some 4), .alloc 49 [(.t (.i .i64 0)), .nl], none⟩),
  (2, ⟨(some 5), .mv (.c (.t (.b false))), none⟩)]
abbrev f29r0 : Pc := .reg f29o0 [1, 2, 4] []
abbrev f29o1 : List (Nat × Pop) := [
  (0, ⟨(some 7), .load true 2 (.tmp 2), none⟩),
  (1, ⟨(some 8), .call 32 [(.tmp 7)], none⟩),
  (2, ⟨(some 9), .un .not (.tmp 8), none⟩),
  (3, ⟨(some 10), .mv (.tmp 9), none⟩),
  (4, ⟨(some 11), .mv (.tmp 1), (some (10, false))⟩),
  (5, ⟨(some 12), .bin .gtr (.tmp 11) (.c (.t (.i .i64 2147483647))), (some (10, false))⟩),
  (6, ⟨(some 13), .pick (.tmp 10) (.c (.t (.b true))) (.tmp 12), none⟩),
  (7, ⟨(some 14), .mv (.tmp 13), none⟩),
  (8, ⟨(some 15), .mv (.tmp 1), (some (14, false))⟩),
  (9, ⟨(some 16), .fad 0 (.tmp 2), (some (14, false))⟩),
  (10, ⟨(some 17), .load false 1 (.tmp 16), (some (14, false))⟩),
  (11, ⟨(some 18), .bin .lss (.tmp 15) (.tmp 17), (some (14, false))⟩),
  (12, ⟨(some 19), .pick (.tmp 14) (.c (.t (.b true))) (.tmp 18), none⟩),
  (13, ⟨(some 20), .mv (.tmp 19), none⟩),
  (14, ⟨(some 21), .fad 1 (.tmp 2), (some (20, false))⟩),
  (15, ⟨(some 22), .load false 1 (.tmp 21), (some (20, false))⟩),
  (16, ⟨(some 23), .mv (.tmp 1), (some (20, false))⟩),
  (17, ⟨(some 24), .call 37 [(.tmp 22), (.tmp 23)], (some (20, false))⟩),
  (18, ⟨(some 25), .pick (.tmp 20) (.c (.t (.b true))) (.tmp 24), none⟩)]
abbrev f29r1 : Pc := .reg f29o1 [1, 2, 4, 25] []
abbrev f29o2 : List (Nat × Pop) := [
  (0, ⟨(some 26), .load true 2 (.tmp 2), none⟩),
  (1, ⟨none, .store 2 (.tmp 4) (.tmp 26), none⟩),
  (2, ⟨(some 5), .mv (.c (.t (.b false))), none⟩)]
abbrev f29r2 : Pc := .reg f29o2 [4, 5] [2]
abbrev f29o3 : List (Nat × Pop) := [
  (0, ⟨(some 27), .fad 1 (.tmp 2), none⟩),
  (1, ⟨(some 28), .load false 1 (.tmp 27), none⟩),
  (2, ⟨(some 29), .call 36 [(.tmp 28)], none⟩),
  (3, ⟨(some 30), .mv (.tmp 1), none⟩),
  (4, ⟨(some 31), .bslT 1 [(.tmp 30)], none⟩),
  (5, ⟨(some 32), .app 3 1 8 (.tmp 29) (.tmp 31), none⟩),
  (6, ⟨(some 6), .mv (.tmp 32), none⟩)]
abbrev f29r3 : Pc := .reg f29o3 [2, 4, 6] []
abbrev f29o4 : List (Nat × Pop) := [
  (0, ⟨(some 33), .mv (.tmp 6), none⟩),
  (1, ⟨(some 34), .call 44 [(.tmp 33)], none⟩)]
abbrev f29r4 : Pc := .reg f29o4 [2, 4, 6] []
abbrev f29o5 : List (Nat × Pop) := [
  (0, ⟨(some 35), .mv (.tmp 6), none⟩),
  (1, ⟨(some 36), .lenL (.tmp 35), none⟩),
  (2, ⟨(some 37), .bin .gtr (.tmp 36) (.c (.t (.i .i64 32))), none⟩)]
abbrev f29r5 : Pc := .reg f29o5 [2, 4, 6, 37] []
abbrev f29o6 : List (Nat × Pop) := [
  (0, ⟨(some 38), .mv (.tmp 6), none⟩),
  (1, ⟨(some 39), .ixS 1 (.tmp 38) (.c (.t (.i .i64 0))), none⟩),
  (2, ⟨(some 40), .load false 1 (.tmp 39), none⟩),
  (3, ⟨(some 41), .bin .add (.tmp 40) (.c (.t (.i .i64 1))), none⟩),
  (4, ⟨(some 42), .mv (.tmp 6), none⟩),
  (5, ⟨(some 43), .sls 1 (.tmp 42) (some (.c (.t (.i .i64 1)))) none, none⟩),
  (6, ⟨(some 44), .fad 0 (.tmp 2), none⟩),
  (7, ⟨none, .store 1 (.tmp 44) (.tmp 41), none⟩),
  (8, ⟨(some 6), .mv (.tmp 43), none⟩)]
abbrev f29r6 : Pc := .reg f29o6 [2, 4, 6] []
def f29l0 : Pc := (.seq (.seq f29r5 (.cond (.tmp 37) .skip (.exit 0))) (.block 1 f29r6))
theorem f29l0e (C : Cfg) (s : St) : evL C f29l0 s = evL C (.seq (.seq f29r5 (.cond (.tmp 37) .skip (.exit 0))) (.block 1 f29r6)) s := rfl
abbrev f29o7 : List (Nat × Pop) := [
  (0, ⟨(some 45), .mv (.tmp 6), none⟩),
  (1, ⟨(some 46), .lenL (.tmp 45), none⟩),
  (2, ⟨(some 47), .bin .gtr (.tmp 46) (.c (.t (.i .i64 0))), none⟩),
  (3, ⟨(some 48), .mv (.tmp 47), none⟩),
  (4, ⟨(some 49), .mv (.tmp 6), (some (48, true))⟩),
  (5, ⟨(some 50), .ixS 1 (.tmp 49) (.c (.t (.i .i64 0))), (some (48, true))⟩),
  (6, ⟨(some 51), .load false 1 (.tmp 50), (some (48, true))⟩),
  (7, ⟨(some 52), .fad 0 (.tmp 2), (some (48, true))⟩),
  (8, ⟨(some 53), .load false 1 (.tmp 52), (some (48, true))⟩),
  (9, ⟨(some 54), .bin .eql (.tmp 51) (.tmp 53), (some (48, true))⟩),
  (10, ⟨(some 55), .pick (.tmp 48) (.tmp 54) (.c (.t (.b false))), none⟩)]
abbrev f29r7 : Pc := .reg f29o7 [2, 4, 6, 55] []
abbrev f29o8 : List (Nat × Pop) := [
  (0, ⟨(some 56), .fad 0 (.tmp 2), none⟩),
  (1, ⟨(some 57), .load false 1 (.tmp 56), none⟩),
  (2, ⟨(some 58), .bin .add (.tmp 57) (.c (.t (.i .i64 1))), none⟩),
  (3, ⟨(some 59), .mv (.tmp 6), none⟩),
  (4, ⟨(some 60), .sls 1 (.tmp 59) (some (.c (.t (.i .i64 1)))) none, none⟩),
  (5, ⟨(some 61), .fad 0 (.tmp 2), none⟩),
  (6, ⟨none, .store 1 (.tmp 61) (.tmp 58), none⟩),
  (7, ⟨(some 6), .mv (.tmp 60), none⟩)]
abbrev f29r8 : Pc := .reg f29o8 [2, 4, 6] []
def f29l1 : Pc := (.seq (.seq f29r7 (.cond (.tmp 55) .skip (.exit 2))) (.block 3 f29r8))
theorem f29l1e (C : Cfg) (s : St) : evL C f29l1 s = evL C (.seq (.seq f29r7 (.cond (.tmp 55) .skip (.exit 2))) (.block 3 f29r8)) s := rfl
abbrev f29o9 : List (Nat × Pop) := [
  (0, ⟨(some 62), .mv (.tmp 6), none⟩),
  (1, ⟨(some 63), .call 36 [(.tmp 62)], none⟩),
  (2, ⟨(some 64), .fad 1 (.tmp 2), none⟩),
  (3, ⟨none, .store 1 (.tmp 64) (.tmp 63), none⟩)]
abbrev f29r9 : Pc := .reg f29o9 [2, 4] [29, 32]
abbrev f29o10 : List (Nat × Pop) := [
  (0, ⟨(some 65), .load true 2 (.tmp 2), none⟩),
  (1, ⟨none, .store 2 (.tmp 4) (.tmp 65), none⟩),
  (2, ⟨(some 5), .mv (.c (.t (.b true))), none⟩)]
abbrev f29r10 : Pc := .reg f29o10 [4, 5] [2]
abbrev f29b : Pc := (.seq f29r0 (.seq (.seq f29r1 (.cond (.tmp 25) (.seq f29r2 .ret) .skip)) (.seq f29r3 (.seq f29r4 (.seq (.block 0 (.loop f29l0)) (.seq (.block 2 (.loop f29l1)) (.seq f29r9 (.seq f29r10 .ret))))))))
abbrev f29 : Pfn := ⟨2, 66, [.cell 4 true 2, .tmp 5], f29b⟩
def f29K : Array (List Nat) := #[[1, 2, 4], [1, 2, 4, 25], [4, 5], [2, 4, 6], [2, 4, 6], [2, 4, 6, 37], [2, 4, 6], [2, 4, 6, 55], [2, 4, 6], [2, 4], [4, 5]]
def f29H : Array (List Nat) := #[[], [], [2], [], [], [], [], [], [], [29, 32], [2]]
def f29A : Ann := ⟨fun r => f29K.getD r [], fun r => f29H.getD r [], fun r i => ([] : List (Nat × Nat)).contains (r, i)⟩
theorem f29C : compF Go.Proofs.Try.prog f29A 29 = some f29 := by kernel_rfl

/-- switchboard/switchboardref09.Accept -/
abbrev f30o0 : List (Nat × Pop) := [
  (0, ⟨(some 2), .box 50 2 (.tmp 0), none⟩),
  (1, ⟨(some 4), .alloc 50 [(.t (.i .i64 0)), .nl], none⟩),
  (2, ⟨(some 5), .mv (.c (.t (.b false))), none⟩)]
abbrev f30r0 : Pc := .reg f30o0 [1, 2, 4] []
abbrev f30o1 : List (Nat × Pop) := [
  (0, ⟨(some 10), .load true 2 (.tmp 2), none⟩),
  (1, ⟨(some 11), .call 33 [(.tmp 10)], none⟩),
  (2, ⟨(some 12), .un .not (.tmp 11), none⟩),
  (3, ⟨(some 13), .mv (.tmp 12), none⟩),
  (4, ⟨(some 14), .mv (.tmp 1), (some (13, false))⟩),
  (5, ⟨(some 15), .fad 0 (.tmp 2), (some (13, false))⟩),
  (6, ⟨(some 16), .load false 1 (.tmp 15), (some (13, false))⟩),
  (7, ⟨(some 17), .bin .lss (.tmp 14) (.tmp 16), (some (13, false))⟩),
  (8, ⟨(some 18), .pick (.tmp 13) (.c (.t (.b true))) (.tmp 17), none⟩),
  (9, ⟨(some 19), .mv (.tmp 18), none⟩),
  (10, ⟨(some 20), .mv (.tmp 1), (some (19, false))⟩),
  (11, ⟨(some 21), .bin .gtr (.tmp 20) (.c (.t (.i .i64 2147483647))), (some (19, false))⟩),
  (12, ⟨(some 22), .pick (.tmp 19) (.c (.t (.b true))) (.tmp 21), none⟩)]
abbrev f30r1 : Pc := .reg f30o1 [1, 2, 4, 22] []
abbrev f30o2 : List (Nat × Pop) := [
  (0, ⟨(some 23), .load true 2 (.tmp 2), none⟩),
  (1, ⟨none, .store 2 (.tmp 4) (.tmp 23), none⟩),
  (2, ⟨(some 5), .mv (.c (.t (.b false))), none⟩)]
abbrev f30r2 : Pc := .reg f30o2 [4, 5] [2]
abbrev f30o3 : List (Nat × Pop) := [
  (0, ⟨(some 6), .nilv 3 1, none⟩)]
abbrev f30r3 : Pc := .reg f30o3 [1, 2, 4, 6] []
abbrev f30o4 : List (Nat × Pop) := [
  (0, ⟨(some 7), .mv (.c (.t (.b false))), none⟩)]
abbrev f30r4 : Pc := .reg f30o4 [1, 2, 4, 6, 7] []
abbrev f30o5 : List (Nat × Pop) := [
  (0, ⟨(some 8), .mv (.c (.t (.i .i64 0))), none⟩)]
abbrev f30r5 : Pc := .reg f30o5 [1, 2, 4, 6, 7, 8] []
abbrev f30o6 : List (Nat × Pop) := [
  (0, ⟨(some 24), .mv (.tmp 8), none⟩),
  (1, ⟨(some 25), .fad 1 (.tmp 2), none⟩),
  (2, ⟨(some 26), .load false 1 (.tmp 25), none⟩),
  (3, ⟨(some 27), .lenL (.tmp 26), none⟩),
  (4, ⟨(some 28), .bin .lss (.tmp 24) (.tmp 27), none⟩)]
abbrev f30r6 : Pc := .reg f30o6 [1, 2, 4, 6, 7, 8, 28] []
abbrev f30o8 : List (Nat × Pop) := [
  (0, ⟨(some 31), .fad 1 (.tmp 2), none⟩),
  (1, ⟨(some 32), .load false 1 (.tmp 31), none⟩),
  (2, ⟨(some 33), .mv (.tmp 8), none⟩),
  (3, ⟨(some 34), .ixS 1 (.tmp 32) (.tmp 33), none⟩),
  (4, ⟨(some 35), .load false 1 (.tmp 34), none⟩),
  (5, ⟨(some 36), .mv (.tmp 1), none⟩),
  (6, ⟨(some 37), .bin .eql (.tmp 35) (.tmp 36), none⟩)]
abbrev f30r8 : Pc := .reg f30o8 [1, 2, 4, 6, 7, 8, 37] []
abbrev f30o9 : List (Nat × Pop) := [
  (0, ⟨(some 38), .load true 2 (.tmp 2), none⟩),
  (1, ⟨none, .store 2 (.tmp 4) (.tmp 38), none⟩),
  (2, ⟨(some 5), .mv (.c (.t (.b false))), none⟩)]
abbrev f30r9 : Pc := .reg f30o9 [4, 5] [2]
abbrev f30o10 : List (Nat × Pop) := [
  (0, ⟨(some 39), .fad 1 (.tmp 2), none⟩),
  (1, ⟨(some 40), .load false 1 (.tmp 39), none⟩),
  (2, ⟨(some 41), .mv (.tmp 8), none⟩),
  (3, ⟨(some 42), .ixS 1 (.tmp 40) (.tmp 41), none⟩),
  (4, ⟨(some 43), .load false 1 (.tmp 42), none⟩),
  (5, ⟨(some 44), .mv (.tmp 1), none⟩),
  (6, ⟨(some 45), .bin .gtr (.tmp 43) (.tmp 44), none⟩),
  (7, ⟨(some 46), .mv (.tmp 45), none⟩),
  (8, ⟨(some 47), .mv (.tmp 7), (some (46, true))⟩),
  (9, ⟨(some 48), .un .not (.tmp 47), (some (46, true))⟩),
  (10, ⟨(some 49), .pick (.tmp 46) (.tmp 48) (.c (.t (.b false))), none⟩)]
abbrev f30r10 : Pc := .reg f30o10 [1, 2, 4, 6, 7, 8, 49] []
abbrev f30o11 : List (Nat × Pop) := [
  (0, ⟨(some 50), .mv (.tmp 6), none⟩),
  (1, ⟨(some 51), .mv (.tmp 1), none⟩),
  (2, ⟨(some 52), .bslT 1 [(.tmp 51)], none⟩),
  (3, ⟨(some 53), .app 3 1 8 (.tmp 50) (.tmp 52), none⟩),
  (4, ⟨(some 6), .mv (.tmp 53), none⟩)]
abbrev f30r11 : Pc := .reg f30o11 [1, 2, 4, 6, 8] []
abbrev f30o12 : List (Nat × Pop) := [
  (0, ⟨(some 7), .mv (.c (.t (.b true))), none⟩)]
abbrev f30r12 : Pc := .reg f30o12 [1, 2, 4, 6, 7, 8] []
abbrev f30o13 : List (Nat × Pop) := [
  (0, ⟨(some 54), .mv (.tmp 6), none⟩),
  (1, ⟨(some 55), .fad 1 (.tmp 2), none⟩),
  (2, ⟨(some 56), .load false 1 (.tmp 55), none⟩),
  (3, ⟨(some 57), .mv (.tmp 8), none⟩),
  (4, ⟨(some 58), .ixS 1 (.tmp 56) (.tmp 57), none⟩),
  (5, ⟨(some 59), .load false 1 (.tmp 58), none⟩),
  (6, ⟨(some 60), .bslT 1 [(.tmp 59)], none⟩),
  (7, ⟨(some 61), .app 3 1 8 (.tmp 54) (.tmp 60), none⟩),
  (8, ⟨(some 6), .mv (.tmp 61), none⟩)]
abbrev f30r13 : Pc := .reg f30o13 [1, 2, 4, 6, 7, 8] []
abbrev f30o7 : List (Nat × Pop) := [
  (0, ⟨(some 29), .mv (.tmp 8), none⟩),
  (1, ⟨(some 30), .bin .add (.tmp 29) (.c (.t (.i .i64 1))), none⟩),
  (2, ⟨(some 8), .mv (.tmp 30), none⟩)]
abbrev f30r7 : Pc := .reg f30o7 [1, 2, 4, 6, 7, 8] []
def f30l0 : Pc := (.seq (.seq f30r6 (.cond (.tmp 28) .skip (.exit 0))) (.seq (.block 1 (.seq (.seq f30r8 (.cond (.tmp 37) (.seq f30r9 .ret) .skip)) (.seq (.seq f30r10 (.cond (.tmp 49) (.seq f30r11 f30r12) .skip)) f30r13))) f30r7))
theorem f30l0e (C : Cfg) (s : St) : evL C f30l0 s = evL C (.seq (.seq f30r6 (.cond (.tmp 28) .skip (.exit 0))) (.seq (.block 1 (.seq (.seq f30r8 (.cond (.tmp 37) (.seq f30r9 .ret) .skip)) (.seq (.seq f30r10 (.cond (.tmp 49) (.seq f30r11 f30r12) .skip)) f30r13))) f30r7)) s := rfl
abbrev f30o14 : List (Nat × Pop) := [
  (0, ⟨(some 62), .mv (.tmp 7), none⟩),
  (1, ⟨(some 63), .un .not (.tmp 62), none⟩)]
abbrev f30r14 : Pc := .reg f30o14 [1, 2, 4, 6, 63] []
abbrev f30o15 : List (Nat × Pop) := [
  (0, ⟨(some 64), .mv (.tmp 6), none⟩),
  (1, ⟨(some 65), .mv (.tmp 1), none⟩),
  (2, ⟨(some 66), .bslT 1 [(.tmp 65)], none⟩),
  (3, ⟨(some 67), .app 3 1 8 (.tmp 64) (.tmp 66), none⟩),
  (4, ⟨(some 6), .mv (.tmp 67), none⟩)]
abbrev f30r15 : Pc := .reg f30o15 [2, 4, 6] []
abbrev f30o16 : List (Nat × Pop) := [
  (0, ⟨(some 68), .fad 0 (.tmp 2), none⟩),
  (1, ⟨(some 69), .load false 1 (.tmp 68), none⟩),
  (2, ⟨(some 9), .mv (.tmp 69), none⟩)]
abbrev f30r16 : Pc := .reg f30o16 [4, 6, 9] [2]
abbrev f30o17 : List (Nat × Pop) := [
  (0, ⟨(some 70), .mv (.tmp 6), none⟩),
  (1, ⟨(some 71), .lenL (.tmp 70), none⟩),
  (2, ⟨(some 72), .bin .eql (.tmp 71) (.c (.t (.i .i64 33))), none⟩)]
abbrev f30r17 : Pc := .reg f30o17 [4, 6, 9, 72] []
abbrev f30o18 : List (Nat × Pop) := [
  (0, ⟨(some 73), .mv (.tmp 6), none⟩),
  (1, ⟨(some 74), .ixS 1 (.tmp 73) (.c (.t (.i .i64 0))), none⟩),
  (2, ⟨(some 75), .load false 1 (.tmp 74), none⟩),
  (3, ⟨(some 76), .bin .add (.tmp 75) (.c (.t (.i .i64 1))), none⟩),
  (4, ⟨(some 9), .mv (.tmp 76), none⟩)]
abbrev f30r18 : Pc := .reg f30o18 [4, 6, 9] []
abbrev f30o19 : List (Nat × Pop) := [
  (0, ⟨(some 77), .mv (.tmp 6), none⟩),
  (1, ⟨(some 78), .sls 1 (.tmp 77) (some (.c (.t (.i .i64 1)))) none, none⟩),
  (2, ⟨(some 6), .mv (.tmp 78), none⟩)]
abbrev f30r19 : Pc := .reg f30o19 [4, 6, 9] []
abbrev f30o20 : List (Nat × Pop) := [
  (0, ⟨(some 79), .mv (.tmp 6), none⟩),
  (1, ⟨(some 80), .lenL (.tmp 79), none⟩),
  (2, ⟨(some 81), .bin .gtr (.tmp 80) (.c (.t (.i .i64 0))), none⟩),
  (3, ⟨(some 82), .mv (.tmp 81), none⟩),
  (4, ⟨(some 83), .mv (.tmp 6), (some (82, true))⟩),
  (5, ⟨(some 84), .ixS 1 (.tmp 83) (.c (.t (.i .i64 0))), (some (82, true))⟩),
  (6, ⟨(some 85), .load false 1 (.tmp 84), (some (82, true))⟩),
  (7, ⟨(some 86), .mv (.tmp 9), (some (82, true))⟩),
  (8, ⟨(some 87), .bin .eql (.tmp 85) (.tmp 86), (some (82, true))⟩),
  (9, ⟨(some 88), .pick (.tmp 82) (.tmp 87) (.c (.t (.b false))), none⟩)]
abbrev f30r20 : Pc := .reg f30o20 [4, 6, 9, 88] []
abbrev f30o21 : List (Nat × Pop) := [
  (0, ⟨(some 89), .mv (.tmp 9), none⟩),
  (1, ⟨(some 90), .bin .add (.tmp 89) (.c (.t (.i .i64 1))), none⟩),
  (2, ⟨(some 9), .mv (.tmp 90), none⟩)]
abbrev f30r21 : Pc := .reg f30o21 [4, 6, 9] []
abbrev f30o22 : List (Nat × Pop) := [
  (0, ⟨(some 91), .mv (.tmp 6), none⟩),
  (1, ⟨(some 92), .sls 1 (.tmp 91) (some (.c (.t (.i .i64 1)))) none, none⟩),
  (2, ⟨(some 6), .mv (.tmp 92), none⟩)]
abbrev f30r22 : Pc := .reg f30o22 [4, 6, 9] []
def f30l1 : Pc := (.seq (.seq f30r20 (.cond (.tmp 88) .skip (.exit 2))) (.block 3 (.seq f30r21 f30r22)))
theorem f30l1e (C : Cfg) (s : St) : evL C f30l1 s = evL C (.seq (.seq f30r20 (.cond (.tmp 88) .skip (.exit 2))) (.block 3 (.seq f30r21 f30r22))) s := rfl
abbrev f30o23 : List (Nat × Pop) := [
  (0, ⟨(some 93), .mv (.tmp 9), none⟩),
  (1, ⟨(some 94), .mv (.tmp 6), none⟩),
  (2, ⟨(some 95), .build [(.t (.i .i64 0)), .nl] [(0, 1, (.tmp 93)), (1, 1, (.tmp 94))], none⟩),
  (3, ⟨none, .store 2 (.tmp 4) (.tmp 95), none⟩),
  (4, ⟨(some 5), .mv (.c (.t (.b true))), none⟩)]
abbrev f30r23 : Pc := .reg f30o23 [4, 5] []
abbrev f30b : Pc := (.seq f30r0 (.seq (.seq f30r1 (.cond (.tmp 22) (.seq f30r2 .ret) .skip)) (.seq f30r3 (.seq f30r4 (.seq (.seq f30r5 (.block 0 (.loop f30l0))) (.seq (.seq f30r14 (.cond (.tmp 63) f30r15 .skip)) (.seq f30r16 (.seq (.seq f30r17 (.cond (.tmp 72) (.seq f30r18 f30r19) .skip)) (.seq (.block 2 (.loop f30l1)) (.seq f30r23 .ret))))))))))
abbrev f30 : Pfn := ⟨2, 96, [.cell 4 true 2, .tmp 5], f30b⟩
def f30K : Array (List Nat) := #[[1, 2, 4], [1, 2, 4, 22], [4, 5], [1, 2, 4, 6], [1, 2, 4, 6, 7], [1, 2, 4, 6, 7, 8], [1, 2, 4, 6, 7, 8, 28], [1, 2, 4, 6, 7, 8], [1, 2, 4, 6, 7, 8, 37], [4, 5], [1, 2, 4, 6, 7, 8, 49], [1, 2, 4, 6, 8], [1, 2, 4, 6, 7, 8], [1, 2, 4, 6, 7, 8], [1, 2, 4, 6, 63], [2, 4, 6], [4, 6, 9], [4, 6, 9, 72], [4, 6, 9], [4, 6, 9], [4, 6, 9, 88], [4, 6, 9], [4, 6, 9], [4, 5]]
def f30H : Array (List Nat) := #[[], [], [2], [], [], [], [], [], [], [2], [], [], [], [], [], [], [2], [], [], [], [], [], [], []]
def f30A : Ann := ⟨fun r => f30K.getD r [], fun r => f30H.getD r [], fun r i => ([] : List (Nat × Nat)).contains (r, i)⟩
theorem f30C : compF Go.Proofs.Try.prog f30A 30 = some f30 := by kernel_rfl

/-- switchboard/switchboardref09.Same -/
abbrev f31o0 : List (Nat × Pop) := [
  (0, ⟨(some 2), .box 50 2 (.tmp 0), none⟩),
  (1, ⟨(some 3), .box 50 2 (.tmp 1), none⟩),
  (2, ⟨(some 4), .mv (.c (.t (.b false))), none⟩)]
abbrev f31r0 : Pc := .reg f31o0 [2, 3] []
abbrev f31o1 : List (Nat × Pop) := [
  (0, ⟨(some 6), .fad 0 (.tmp 2), none⟩),
  (1, ⟨(some 7), .load false 1 (.tmp 6), none⟩),
  (2, ⟨(some 8), .fad 0 (.tmp 3), none⟩),
  (3, ⟨(some 9), .load false 1 (.tmp 8), none⟩),
  (4, ⟨(some 10), .bin .neq (.tmp 7) (.tmp 9), none⟩),
  (5, ⟨(some 11), .mv (.tmp 10), none⟩),
  (6, ⟨(some 12), .fad 1 (.tmp 2), (some (11, false))⟩),
  (7, ⟨(some 13), .load false 1 (.tmp 12), (some (11, false))⟩),
  (8, ⟨(some 14), .lenL (.tmp 13), (some (11, false))⟩),
  (9, ⟨(some 15), .fad 1 (.tmp 3), (some (11, false))⟩),
  (10, ⟨(some 16), .load false 1 (.tmp 15), (some (11, false))⟩),
  (11, ⟨(some 17), .lenL (.tmp 16), (some (11, false))⟩),
  (12, ⟨(some 18), .bin .neq (.tmp 14) (.tmp 17), (some (11, false))⟩),
  (13, ⟨(some 19), .pick (.tmp 11) (.c (.t (.b true))) (.tmp 18), none⟩)]
abbrev f31r1 : Pc := .reg f31o1 [2, 3, 19] []
abbrev f31o2 : List (Nat × Pop) := [
  (0, ⟨(some 4), .mv (.c (.t (.b false))), none⟩)]
abbrev f31r2 : Pc := .reg f31o2 [4] [2, 3]
abbrev f31o3 : List (Nat × Pop) := [
  (0, ⟨(some 5), .mv (.c (.t (.i .i64 0))), none⟩)]
abbrev f31r3 : Pc := .reg f31o3 [2, 3, 5] []
abbrev f31o4 : List (Nat × Pop) := [
  (0, ⟨(some 20), .mv (.tmp 5), none⟩),
  (1, ⟨(some 21), .fad 1 (.tmp 2), none⟩),
  (2, ⟨(some 22), .load false 1 (.tmp 21), none⟩),
  (3, ⟨(some 23), .lenL (.tmp 22), none⟩),
  (4, ⟨(some 24), .bin .lss (.tmp 20) (.tmp 23), none⟩)]
abbrev f31r4 : Pc := .reg f31o4 [2, 3, 5, 24] []
abbrev f31o6 : List (Nat × Pop) := [
  (0, ⟨(some 27), .fad 1 (.tmp 2), none⟩),
  (1, ⟨(some 28), .load false 1 (.tmp 27), none⟩),
  (2, ⟨(some 29), .mv (.tmp 5), none⟩),
  (3, ⟨(some 30), .ixS 1 (.tmp 28) (.tmp 29), none⟩),
  (4, ⟨(some 31), .load false 1 (.tmp 30), none⟩),
  (5, ⟨(some 32), .fad 1 (.tmp 3), none⟩),
  (6, ⟨(some 33), .load false 1 (.tmp 32), none⟩),
  (7, ⟨(some 34), .mv (.tmp 5), none⟩),
  (8, ⟨(some 35), .ixS 1 (.tmp 33) (.tmp 34), none⟩),
  (9, ⟨(some 36), .load false 1 (.tmp 35), none⟩),
  (10, ⟨(some 37), .bin .neq (.tmp 31) (.tmp 36), none⟩)]
abbrev f31r6 : Pc := .reg f31o6 [2, 3, 5, 37] []
abbrev f31o7 : List (Nat × Pop) := [
  (0, ⟨(some 4), .mv (.c (.t (.b false))), none⟩)]
abbrev f31r7 : Pc := .reg f31o7 [4] [2, 3]
abbrev f31o5 : List (Nat × Pop) := [
  (0, ⟨(some 25), .mv (.tmp 5), none⟩),
  (1, ⟨(some 26), .bin .add (.tmp 25) (.c (.t (.i .i64 1))), none⟩),
  (2, ⟨(some 5), .mv (.tmp 26), none⟩)]
abbrev f31r5 : Pc := .reg f31o5 [2, 3, 5] []
def f31l0 : Pc := (.seq (.seq f31r4 (.cond (.tmp 24) .skip (.exit 0))) (.seq (.block 1 (.seq f31r6 (.cond (.tmp 37) (.seq f31r7 .ret) .skip))) f31r5))
theorem f31l0e (C : Cfg) (s : St) : evL C f31l0 s = evL C (.seq (.seq f31r4 (.cond (.tmp 24) .skip (.exit 0))) (.seq (.block 1 (.seq f31r6 (.cond (.tmp 37) (.seq f31r7 .ret) .skip))) f31r5)) s := rfl
abbrev f31o8 : List (Nat × Pop) := [
  (0, ⟨(some 4), .mv (.c (.t (.b true))), none⟩)]
abbrev f31r8 : Pc := .reg f31o8 [4] [2, 3]
abbrev f31b : Pc := (.seq f31r0 (.seq (.seq f31r1 (.cond (.tmp 19) (.seq f31r2 .ret) .skip)) (.seq (.seq f31r3 (.block 0 (.loop f31l0))) (.seq f31r8 .ret))))
abbrev f31 : Pfn := ⟨2, 38, [.tmp 4], f31b⟩
def f31K : Array (List Nat) := #[[2, 3], [2, 3, 19], [4], [2, 3, 5], [2, 3, 5, 24], [2, 3, 5], [2, 3, 5, 37], [4], [4]]
def f31H : Array (List Nat) := #[[], [], [2, 3], [], [], [], [], [2, 3], [2, 3]]
def f31A : Ann := ⟨fun r => f31K.getD r [], fun r => f31H.getD r [], fun r i => ([] : List (Nat × Nat)).contains (r, i)⟩
theorem f31C : compF Go.Proofs.Try.prog f31A 31 = some f31 := by kernel_rfl

/-- switchboard/window.Right -/
abbrev f32o0 : List (Nat × Pop) := [
  (0, ⟨(some 1), .box 49 2 (.tmp 0), none⟩),
  (1, ⟨(some 2), .mv (.c (.t (.b false))), none⟩)]
abbrev f32r0 : Pc := .reg f32o0 [1] []
abbrev f32o1 : List (Nat × Pop) := [
  (0, ⟨(some 6), .fad 0 (.tmp 1), none⟩),
  (1, ⟨(some 7), .load false 1 (.tmp 6), none⟩),
  (2, ⟨(some 8), .bin .sub (.tmp 7) (.c (.t (.i .i64 1))), none⟩),
  (3, ⟨(some 3), .mv (.tmp 8), none⟩)]
abbrev f32r1 : Pc := .reg f32o1 [1, 3] []
abbrev f32o2 : List (Nat × Pop) := [
  (0, ⟨(some 9), .fad 1 (.tmp 1), none⟩),
  (1, ⟨(some 10), .load false 1 (.tmp 9), none⟩),
  (2, ⟨(some 11), .lenL (.tmp 10), none⟩),
  (3, ⟨(some 12), .mv (.c (.t (.i .i64 0))), none⟩)]
abbrev f32r2 : Pc := .reg f32o2 [1, 3, 10, 11, 12] []
abbrev f32o3 : List (Nat × Pop) := [
  (0, ⟨(some 13), .bin .lss (.tmp 12) (.tmp 11), none⟩)]
abbrev f32r3 : Pc := .reg f32o3 [1, 3, 10, 11, 12, 13] []
abbrev f32o4 : List (Nat × Pop) := [
  (0, ⟨(some 14), .ixS 1 (.tmp 10) (.tmp 12), none⟩),
  (1, ⟨(some 15), .load false 1 (.tmp 14), none⟩),
  (2, ⟨(some 5), .mv (.tmp 15), none⟩)]
abbrev f32r4 : Pc := .reg f32o4 [1, 3, 5, 10, 11, 12] []
abbrev f32o5 : List (Nat × Pop) := [
  (0, ⟨(some 16), .mv (.tmp 5), none⟩),
  (1, ⟨(some 17), .mv (.tmp 3), none⟩),
  (2, ⟨(some 18), .bin .leq (.tmp 16) (.tmp 17), none⟩),
  (3, ⟨(some 19), .mv (.tmp 18), none⟩),
  (4, ⟨(some 20), .mv (.tmp 5), (some (19, false))⟩),
  (5, ⟨(some 21), .bin .gtr (.tmp 20) (.c (.t (.i .i64 2147483647))), (some (19, false))⟩),
  (6, ⟨(some 22), .pick (.tmp 19) (.c (.t (.b true))) (.tmp 21), none⟩)]
abbrev f32r5 : Pc := .reg f32o5 [1, 5, 10, 11, 12, 22] []
abbrev f32o6 : List (Nat × Pop) := [
  (0, ⟨(some 2), .mv (.c (.t (.b false))), none⟩)]
abbrev f32r6 : Pc := .reg f32o6 [2] [1]
abbrev f32o7 : List (Nat × Pop) := [
  (0, ⟨(some 23), .mv (.tmp 5), none⟩),
  (1, ⟨(some 3), .mv (.tmp 23), none⟩)]
abbrev f32r7 : Pc := .reg f32o7 [1, 3, 10, 11, 12] []
abbrev f32o8 : List (Nat × Pop) := [
  (0, ⟨(some 24), .bin .add (.tmp 12) (.c (.t (.i .i64 1))), none⟩),
  (1, ⟨(some 12), .mv (.tmp 24), none⟩)]
abbrev f32r8 : Pc := .reg f32o8 [1, 3, 10, 11, 12] []
def f32l0 : Pc := (.seq f32r3 (.seq (.cond (.tmp 13) .skip (.exit 0)) (.seq (.block 1 (.seq f32r4 (.seq (.seq f32r5 (.cond (.tmp 22) (.seq f32r6 .ret) .skip)) f32r7))) f32r8)))
theorem f32l0e (C : Cfg) (s : St) : evL C f32l0 s = evL C (.seq f32r3 (.seq (.cond (.tmp 13) .skip (.exit 0)) (.seq (.block 1 (.seq f32r4 (.seq (.seq f32r5 (.cond (.tmp 22) (.seq f32r6 .ret) .skip)) f32r7))) f32r8))) s := rfl
abbrev f32o9 : List (Nat × Pop) := [
  (0, ⟨(some 25), .fad 0 (.tmp 1), none⟩),
  (1, ⟨(some 26), .load false 1 (.tmp 25), none⟩),
  (2, ⟨(some 27), .bin .geq (.tmp 26) (.c (.t (.i .i64 0))), none⟩),
  (3, ⟨(some 28), .mv (.tmp 27), none⟩),
  (4, ⟨(some 29), .fad 0 (.tmp 1), (some (28, true))⟩),
  (5, ⟨(some 30), .load false 1 (.tmp 29), (some (28, true))⟩),
  (6, ⟨(some 31), .bin .leq (.tmp 30) (.c (.t (.i .i64 2147483647))), (some (28, true))⟩),
  (7, ⟨(some 32), .pick (.tmp 28) (.tmp 31) (.c (.t (.b false))), none⟩),
  (8, ⟨(some 33), .mv (.tmp 32), none⟩),
  (9, ⟨(some 34), .fad 1 (.tmp 1), (some (33, true))⟩),
  (10, ⟨(some 35), .load false 1 (.tmp 34), (some (33, true))⟩),
  (11, ⟨(some 36), .lenL (.tmp 35), (some (33, true))⟩),
  (12, ⟨(some 37), .bin .leq (.tmp 36) (.c (.t (.i .i64 32))), (some (33, true))⟩),
  (13, ⟨(some 38), .pick (.tmp 33) (.tmp 37) (.c (.t (.b false))), none⟩),
  (14, ⟨(some 2), .mv (.tmp 38), none⟩)]
abbrev f32r9 : Pc := .reg f32o9 [2] [1]
abbrev f32b : Pc := (.seq f32r0 (.seq f32r1 (.seq (.seq f32r2 (.block 0 (.loop f32l0))) (.seq f32r9 .ret))))
abbrev f32 : Pfn := ⟨1, 39, [.tmp 2], f32b⟩
def f32K : Array (List Nat) := #[[1], [1, 3], [1, 3, 10, 11, 12], [1, 3, 10, 11, 12, 13], [1, 3, 5, 10, 11, 12], [1, 5, 10, 11, 12, 22], [2], [1, 3, 10, 11, 12], [1, 3, 10, 11, 12], [2]]
def f32H : Array (List Nat) := #[[], [], [], [], [], [], [1], [], [], [1]]
def f32A : Ann := ⟨fun r => f32K.getD r [], fun r => f32H.getD r [], fun r i => ([] : List (Nat × Nat)).contains (r, i)⟩
theorem f32C : compF Go.Proofs.Try.prog f32A 32 = some f32 := by kernel_rfl

/-- switchboard/switchboardref09.Right -/
abbrev f33o0 : List (Nat × Pop) := [
  (0, ⟨(some 1), .box 50 2 (.tmp 0), none⟩),
  (1, ⟨(some 2), .mv (.c (.t (.b false))), none⟩)]
abbrev f33r0 : Pc := .reg f33o0 [1] []
abbrev f33o1 : List (Nat × Pop) := [
  (0, ⟨(some 4), .fad 0 (.tmp 1), none⟩),
  (1, ⟨(some 5), .load false 1 (.tmp 4), none⟩),
  (2, ⟨(some 6), .bin .lss (.tmp 5) (.c (.t (.i .i64 0))), none⟩),
  (3, ⟨(some 7), .mv (.tmp 6), none⟩),
  (4, ⟨(some 8), .fad 0 (.tmp 1), (some (7, false))⟩),
  (5, ⟨(some 9), .load false 1 (.tmp 8), (some (7, false))⟩),
  (6, ⟨(some 10), .bin .gtr (.tmp 9) (.c (.t (.i .i64 2147483647))), (some (7, false))⟩),
  (7, ⟨(some 11), .pick (.tmp 7) (.c (.t (.b true))) (.tmp 10), none⟩),
  (8, ⟨(some 12), .mv (.tmp 11), none⟩),
  (9, ⟨(some 13), .fad 1 (.tmp 1), (some (12, false))⟩),
  (10, ⟨(some 14), .load false 1 (.tmp 13), (some (12, false))⟩),
  (11, ⟨(some 15), .lenL (.tmp 14), (some (12, false))⟩),
  (12, ⟨(some 16), .bin .gtr (.tmp 15) (.c (.t (.i .i64 32))), (some (12, false))⟩),
  (13, ⟨(some 17), .pick (.tmp 12) (.c (.t (.b true))) (.tmp 16), none⟩)]
abbrev f33r1 : Pc := .reg f33o1 [1, 17] []
abbrev f33o2 : List (Nat × Pop) := [
  (0, ⟨(some 2), .mv (.c (.t (.b false))), none⟩)]
abbrev f33r2 : Pc := .reg f33o2 [2] [1]
abbrev f33o3 : List (Nat × Pop) := [
  (0, ⟨(some 3), .mv (.c (.t (.i .i64 0))), none⟩)]
abbrev f33r3 : Pc := .reg f33o3 [1, 3] []
abbrev f33o4 : List (Nat × Pop) := [
  (0, ⟨(some 18), .mv (.tmp 3), none⟩),
  (1, ⟨(some 19), .fad 1 (.tmp 1), none⟩),
  (2, ⟨(some 20), .load false 1 (.tmp 19), none⟩),
  (3, ⟨(some 21), .lenL (.tmp 20), none⟩),
  (4, ⟨(some 22), .bin .lss (.tmp 18) (.tmp 21), none⟩)]
abbrev f33r4 : Pc := .reg f33o4 [1, 3, 22] []
abbrev f33o6 : List (Nat × Pop) := [
  (0, ⟨(some 25), .fad 1 (.tmp 1), none⟩),
  (1, ⟨(some 26), .load false 1 (.tmp 25), none⟩),
  (2, ⟨(some 27), .mv (.tmp 3), none⟩),
  (3, ⟨(some 28), .ixS 1 (.tmp 26) (.tmp 27), none⟩),
  (4, ⟨(some 29), .load false 1 (.tmp 28), none⟩),
  (5, ⟨(some 30), .fad 0 (.tmp 1), none⟩),
  (6, ⟨(some 31), .load false 1 (.tmp 30), none⟩),
  (7, ⟨(some 32), .bin .lss (.tmp 29) (.tmp 31), none⟩),
  (8, ⟨(some 33), .mv (.tmp 32), none⟩),
  (9, ⟨(some 34), .fad 1 (.tmp 1), (some (33, false))⟩),
  (10, ⟨(some 35), .load false 1 (.tmp 34), (some (33, false))⟩),
  (11, ⟨(some 36), .mv (.tmp 3), (some (33, false))⟩),
  (12, ⟨(some 37), .ixS 1 (.tmp 35) (.tmp 36), (some (33, false))⟩),
  (13, ⟨(some 38), .load false 1 (.tmp 37), (some (33, false))⟩),
  (14, ⟨(some 39), .bin .gtr (.tmp 38) (.c (.t (.i .i64 2147483647))), (some (33, false))⟩),
  (15, ⟨(some 40), .pick (.tmp 33) (.c (.t (.b true))) (.tmp 39), none⟩),
  (16, ⟨(some 41), .mv (.tmp 40), none⟩),
  (17, ⟨(some 42), .mv (.tmp 3), (some (41, false))⟩),
  (18, ⟨(some 43), .bin .gtr (.tmp 42) (.c (.t (.i .i64 0))), (some (41, false))⟩),
  (19, ⟨(some 44), .mv (.tmp 43), (some (41, false))⟩),
  (20, ⟨(some 45), .fad 1 (.tmp 1), (some (44, true))⟩),
  (21, ⟨(some 46), .load false 1 (.tmp 45), (some (44, true))⟩),
  (22, ⟨(some 47), .mv (.tmp 3), (some (44, true))⟩),
  (23, ⟨(some 48), .ixS 1 (.tmp 46) (.tmp 47), (some (44, true))⟩),
  (24, ⟨(some 49), .load false 1 (.tmp 48), (some (44, true))⟩),
  (25, ⟨(some 50), .fad 1 (.tmp 1), (some (44, true))⟩),
  (26, ⟨(some 51), .load false 1 (.tmp 50), (some (44, true))⟩),
  (27, ⟨(some 52), .mv (.tmp 3), (some (44, true))⟩),
  (28, ⟨(some 53), .bin .sub (.tmp 52) (.c (.t (.i .i64 1))), (some (44, true))⟩),
  (29, ⟨(some 54), .ixS 1 (.tmp 51) (.tmp 53), (some (44, true))⟩),
  (30, ⟨(some 55), .load false 1 (.tmp 54), (some (44, true))⟩),
  (31, ⟨(some 56), .bin .leq (.tmp 49) (.tmp 55), (some (44, true))⟩),
  (32, ⟨(some 57), .pick (.tmp 44) (.tmp 56) (.c (.t (.b false))), (some (41, false))⟩),
  (33, ⟨(some 58), .pick (.tmp 41) (.c (.t (.b true))) (.tmp 57), none⟩)]
abbrev f33r6 : Pc := .reg f33o6 [1, 3, 58] []
abbrev f33o7 : List (Nat × Pop) := [
  (0, ⟨(some 2), .mv (.c (.t (.b false))), none⟩)]
abbrev f33r7 : Pc := .reg f33o7 [2] [1]
abbrev f33o5 : List (Nat × Pop) := [
  (0, ⟨(some 23), .mv (.tmp 3), none⟩),
  (1, ⟨(some 24), .bin .add (.tmp 23) (.c (.t (.i .i64 1))), none⟩),
  (2, ⟨(some 3), .mv (.tmp 24), none⟩)]
abbrev f33r5 : Pc := .reg f33o5 [1, 3] []
def f33l0 : Pc := (.seq (.seq f33r4 (.cond (.tmp 22) .skip (.exit 0))) (.seq (.block 1 (.seq f33r6 (.cond (.tmp 58) (.seq f33r7 .ret) .skip))) f33r5))
theorem f33l0e (C : Cfg) (s : St) : evL C f33l0 s = evL C (.seq (.seq f33r4 (.cond (.tmp 22) .skip (.exit 0))) (.seq (.block 1 (.seq f33r6 (.cond (.tmp 58) (.seq f33r7 .ret) .skip))) f33r5)) s := rfl
abbrev f33o8 : List (Nat × Pop) := [
  (0, ⟨(some 2), .mv (.c (.t (.b true))), none⟩)]
abbrev f33r8 : Pc := .reg f33o8 [2] [1]
abbrev f33b : Pc := (.seq f33r0 (.seq (.seq f33r1 (.cond (.tmp 17) (.seq f33r2 .ret) .skip)) (.seq (.seq f33r3 (.block 0 (.loop f33l0))) (.seq f33r8 .ret))))
abbrev f33 : Pfn := ⟨1, 59, [.tmp 2], f33b⟩
def f33K : Array (List Nat) := #[[1], [1, 17], [2], [1, 3], [1, 3, 22], [1, 3], [1, 3, 58], [2], [2]]
def f33H : Array (List Nat) := #[[], [], [1], [], [], [], [], [1], [1]]
def f33A : Ann := ⟨fun r => f33K.getD r [], fun r => f33H.getD r [], fun r i => ([] : List (Nat × Nat)).contains (r, i)⟩
theorem f33C : compF Go.Proofs.Try.prog f33A 33 = some f33 := by kernel_rfl

/-- slices.Clone[[]int,int] -/
abbrev f36o0 : List (Nat × Pop) := [
  (0, ⟨(some 2), .nilv 3 1, none⟩)]
abbrev f36r0 : Pc := .reg f36o0 [0] [2, 5, 7]
abbrev f36o1 : List (Nat × Pop) := [
  (0, ⟨(some 3), .mv (.tmp 0), none⟩),
  (1, ⟨(some 4), .isnilS false (.tmp 3), none⟩)]
abbrev f36r1 : Pc := .reg f36o1 [0, 4] []
abbrev f36o2 : List (Nat × Pop) := [
  (0, ⟨(some 2), .nilv 3 1, none⟩)]
abbrev f36r2 : Pc := .reg f36o2 [2] []
abbrev f36o3 : List (Nat × Pop) := [
  (0, ⟨(some 5), .bslO 3 1 [], none⟩),
  (1, ⟨(some 6), .mv (.tmp 0), none⟩),
  (2, ⟨(some 7), .app 3 1 8 (.tmp 5) (.tmp 6), none⟩),
  (3, ⟨(some 2), .mv (.tmp 7), none⟩)]
abbrev f36r3 : Pc := .reg f36o3 [2] []
abbrev f36b : Pc := (.seq f36r0 (.seq (.seq f36r1 (.cond (.tmp 4) (.seq f36r2 .ret) .skip)) (.seq f36r3 .ret)))
abbrev f36 : Pfn := ⟨1, 8, [.tmp 2], f36b⟩
def f36K : Array (List Nat) := #[[0], [0, 4], [2], [2]]
def f36H : Array (List Nat) := #[[2, 5, 7], [], [], []]
def f36A : Ann := ⟨fun r => f36K.getD r [], fun r => f36H.getD r [], fun r i => ([(3, 0)] : List (Nat × Nat)).contains (r, i)⟩
theorem f36C : compF Go.Proofs.Try.prog f36A 36 = some f36 := by kernel_rfl

/-- slices.Contains[[]int,int] -/
abbrev f37o0 : List (Nat × Pop) := [
  (0, ⟨(some 4), .mv (.c (.t (.b false))), none⟩)]
abbrev f37r0 : Pc := .reg f37o0 [0, 1] []
abbrev f37o1 : List (Nat × Pop) := [
  (0, ⟨(some 5), .mv (.tmp 0), none⟩),
  (1, ⟨(some 6), .mv (.tmp 1), none⟩),
  (2, ⟨(some 7), .call 50 [(.tmp 5), (.tmp 6)], none⟩),
  (3, ⟨(some 8), .bin .geq (.tmp 7) (.c (.t (.i .i64 0))), none⟩),
  (4, ⟨(some 4), .mv (.tmp 8), none⟩)]
abbrev f37r1 : Pc := .reg f37o1 [4] []
abbrev f37b : Pc := (.seq f37r0 (.seq f37r1 .ret))
abbrev f37 : Pfn := ⟨2, 9, [.tmp 4], f37b⟩
def f37K : Array (List Nat) := #[[0, 1], [4]]
def f37H : Array (List Nat) := #[[], []]
def f37A : Ann := ⟨fun r => f37K.getD r [], fun r => f37H.getD r [], fun r i => ([] : List (Nat × Nat)).contains (r, i)⟩
theorem f37C : compF Go.Proofs.Try.prog f37A 37 = some f37 := by kernel_rfl

/-- slices.Index[[]int,int] -/
abbrev f50o0 : List (Nat × Pop) := [
  (0, ⟨(some 4), .mv (.c (.t (.i .i64 0))), none⟩)]
abbrev f50r0 : Pc := .reg f50o0 [0, 1] []
abbrev f50o1 : List (Nat × Pop) := [
  (0, ⟨(some 6), .mv (.tmp 0), none⟩),
  (1, ⟨(some 7), .lenL (.tmp 6), none⟩),
  (2, ⟨(some 8), .mv (.c (.t (.i .i64 0))), none⟩)]
abbrev f50r1 : Pc := .reg f50o1 [0, 1, 7, 8] []
abbrev f50o2 : List (Nat × Pop) := [
  (0, ⟨(some 9), .bin .lss (.tmp 8) (.tmp 7), none⟩)]
abbrev f50r2 : Pc := .reg f50o2 [0, 1, 7, 8, 9] []
abbrev f50o3 : List (Nat × Pop) := [
  (0, ⟨(some 10), .mv (.tmp 8), none⟩),
  (1, ⟨(some 5), .mv (.tmp 10), none⟩)]
abbrev f50r3 : Pc := .reg f50o3 [0, 1, 5, 7, 8] []
abbrev f50o4 : List (Nat × Pop) := [
  (0, ⟨(some 11), .mv (.tmp 1), none⟩),
  (1, ⟨(some 12), .mv (.tmp 0), none⟩),
  (2, ⟨(some 13), .mv (.tmp 5), none⟩),
  (3, ⟨(some 14), .ixS 1 (.tmp 12) (.tmp 13), none⟩),
  (4, ⟨(some 15), .load false 1 (.tmp 14), none⟩),
  (5, ⟨(some 16), .bin .eql (.tmp 11) (.tmp 15), none⟩)]
abbrev f50r4 : Pc := .reg f50o4 [0, 1, 5, 7, 8, 16] []
abbrev f50o5 : List (Nat × Pop) := [
  (0, ⟨(some 17), .mv (.tmp 5), none⟩),
  (1, ⟨(some 4), .mv (.tmp 17), none⟩)]
abbrev f50r5 : Pc := .reg f50o5 [4] []
abbrev f50o6 : List (Nat × Pop) := [
  (0, ⟨(some 18), .bin .add (.tmp 8) (.c (.t (.i .i64 1))), none⟩),
  (1, ⟨(some 8), .mv (.tmp 18), none⟩)]
abbrev f50r6 : Pc := .reg f50o6 [0, 1, 7, 8] []
def f50l0 : Pc := (.seq f50r2 (.seq (.cond (.tmp 9) .skip (.exit 0)) (.seq (.block 1 (.seq f50r3 (.seq f50r4 (.cond (.tmp 16) (.seq f50r5 .ret) .skip)))) f50r6)))
theorem f50l0e (C : Cfg) (s : St) : evL C f50l0 s = evL C (.seq f50r2 (.seq (.cond (.tmp 9) .skip (.exit 0)) (.seq (.block 1 (.seq f50r3 (.seq f50r4 (.cond (.tmp 16) (.seq f50r5 .ret) .skip)))) f50r6))) s := rfl
abbrev f50o7 : List (Nat × Pop) := [
  (0, ⟨(some 4), .mv (.c (.t (.i .i64 (-1)))), none⟩)]
abbrev f50r7 : Pc := .reg f50o7 [4] []
abbrev f50b : Pc := (.seq f50r0 (.seq (.seq f50r1 (.block 0 (.loop f50l0))) (.seq f50r7 .ret)))
abbrev f50 : Pfn := ⟨2, 19, [.tmp 4], f50b⟩
def f50K : Array (List Nat) := #[[0, 1], [0, 1, 7, 8], [0, 1, 7, 8, 9], [0, 1, 5, 7, 8], [0, 1, 5, 7, 8, 16], [4], [0, 1, 7, 8], [4]]
def f50H : Array (List Nat) := #[[], [], [], [], [], [], [], []]
def f50A : Ann := ⟨fun r => f50K.getD r [], fun r => f50H.getD r [], fun r i => ([] : List (Nat × Nat)).contains (r, i)⟩
theorem f50C : compF Go.Proofs.Try.prog f50A 50 = some f50 := by kernel_rfl


end Go.Proofs.Ytchjpboiebdabaa.Pv
