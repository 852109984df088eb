/- The functions' forms, as the pure evaluator takes them; each is what the program's code gives (kernel_rfl). -/
import Derived.Test.YtchjpboiebdabaaComp
import Derived.Test.YtchjpboiebdabaaRet
import Derived.Test.YtchjpboiebdabaaProg
import Derived.KernelRfl
namespace Go.Proofs.Ytchjpboiebdabaa.Pv
open Go Go.Pev
/-- switchboard/switchboardlaw21.LoadNotes -/
abbrev f3o0 : List (Nat × Pop) := [
  (0, ⟨(some 6), .box 25 2 (.tmp 2), none⟩),
  (1, ⟨(some 8), .mv (.c (.t (.b false))), none⟩)]
abbrev f3r0 : Pc := .reg f3o0 [0, 1, 3, 6] []
abbrev f3o1 : List (Nat × Pop) := [
  (0, ⟨(some 11), .mv (.tmp 0), none⟩),
  (1, ⟨(some 12), .lenL (.tmp 11), none⟩),
  (2, ⟨(some 13), .bin .gtr (.tmp 12) (.c (.t (.i .i64 60))), none⟩),
  (3, ⟨(some 14), .mv (.tmp 13), none⟩),
  (4, ⟨(some 15), .fad 1 (.tmp 6), (some (14, false))⟩),
  (5, ⟨(some 16), .load false 1 (.tmp 15), (some (14, false))⟩),
  (6, ⟨(some 17), .call 15 [(.tmp 16)], (some (14, false))⟩),
  (7, ⟨(some 18), .un .not (.tmp 17), (some (14, false))⟩),
  (8, ⟨(some 19), .pick (.tmp 14) (.c (.t (.b true))) (.tmp 18), none⟩)]
abbrev f3r1 : Pc := .reg f3o1 [0, 1, 3, 6, 19] []
abbrev f3o2 : List (Nat × Pop) := [
  (0, ⟨(some 20), .call 16 [], none⟩),
  (1, ⟨(some 8), .mv (.tmp 20), none⟩)]
abbrev f3r2 : Pc := .reg f3o2 [8] [6]
abbrev f3o3 : List (Nat × Pop) := [
  (0, ⟨(some 21), .mv (.tmp 0), none⟩),
  (1, ⟨(some 22), .mv (.tmp 1), none⟩),
  (2, ⟨(some 23), .call 17 [(.tmp 21), (.tmp 22)], none⟩),
  (3, ⟨(some 9), .mv (.tmp 23), none⟩)]
abbrev f3r3 : Pc := .reg f3o3 [0, 1, 3, 6, 9] []
abbrev f3o4 : List (Nat × Pop) := [
  (0, ⟨(some 24), .bslO 3 1 [], none⟩),
  (1, ⟨(some 25), .mv (.tmp 0), none⟩),
  (2, ⟨(some 26), .app 3 1 8 (.tmp 24) (.tmp 25), none⟩),
  (3, ⟨(some 10), .mv (.tmp 26), none⟩)]
abbrev f3r4 : Pc := .reg f3o4 [0, 1, 3, 6, 9, 10] []
abbrev f3o5 : List (Nat × Pop) := [
  (0, ⟨(some 27), .mv (.tmp 1), none⟩),
  (1, ⟨(some 28), .bin .geq (.tmp 27) (.c (.t (.i .i64 0))), none⟩),
  (2, ⟨(some 29), .mv (.tmp 28), none⟩),
  (3, ⟨(some 30), .mv (.tmp 1), (some (29, true))⟩),
  (4, ⟨(some 31), .bin .leq (.tmp 30) (.c (.t (.i .i64 7))), (some (29, true))⟩),
  (5, ⟨(some 32), .pick (.tmp 29) (.tmp 31) (.c (.t (.b false))), none⟩),
  (6, ⟨(some 33), .mv (.tmp 32), none⟩),
  (7, ⟨(some 34), .mv (.tmp 0), (some (33, true))⟩),
  (8, ⟨(some 35), .mv (.tmp 1), (some (33, true))⟩),
  (9, ⟨(some 36), .call 18 [(.tmp 34), (.tmp 35)], (some (33, true))⟩),
  (10, ⟨(some 37), .bin .lss (.tmp 36) (.c (.t (.i .i64 2147483647))), (some (33, true))⟩),
  (11, ⟨(some 38), .pick (.tmp 33) (.tmp 37) (.c (.t (.b false))), none⟩)]
abbrev f3r5 : Pc := .reg f3o5 [0, 1, 3, 6, 9, 10, 38] []
abbrev f3o6 : List (Nat × Pop) := [
  (0, ⟨(some 39), .mv (.tmp 10), none⟩),
  (1, ⟨(some 40), .lenL (.tmp 39), none⟩),
  (2, ⟨(some 41), .mv (.tmp 1), none⟩),
  (3, ⟨(some 42), .bin .leq (.tmp 40) (.tmp 41), none⟩)]
abbrev f3r6 : Pc := .reg f3o6 [0, 1, 3, 6, 9, 10, 42] []
abbrev f3o7 : List (Nat × Pop) := [
  (0, ⟨(some 43), .mv (.tmp 10), none⟩),
  (1, ⟨(some 44), .bslT 1 [(.c (.t (.i .i64 0)))], none⟩),
  (2, ⟨(some 45), .app 3 1 8 (.tmp 43) (.tmp 44), none⟩),
  (3, ⟨(some 10), .mv (.tmp 45), none⟩)]
abbrev f3r7 : Pc := .reg f3o7 [0, 1, 3, 6, 9, 10] []
def f3l0 : Pc := (.seq (.seq f3r6 (.cond (.tmp 42) .skip (.exit 0))) (.block 1 f3r7))
theorem f3l0e (C : Cfg) (s : St) : evL C f3l0 s = evL C (.seq (.seq f3r6 (.cond (.tmp 42) .skip (.exit 0))) (.block 1 f3r7)) s := rfl
abbrev f3o8 : List (Nat × Pop) := [
  (0, ⟨(some 46), .mv (.tmp 10), none⟩),
  (1, ⟨(some 47), .mv (.tmp 1), none⟩),
  (2, ⟨(some 48), .ixS 1 (.tmp 46) (.tmp 47), none⟩),
  (3, ⟨(some 49), .load false 1 (.tmp 48), none⟩),
  (4, ⟨(some 50), .bin .add (.tmp 49) (.c (.t (.i .i64 1))), none⟩),
  (5, ⟨(some 51), .ixS 1 (.tmp 46) (.tmp 47), none⟩),
  (6, ⟨none, .store 1 (.tmp 51) (.tmp 50), none⟩)]
abbrev f3r8 : Pc := .reg f3o8 [0, 1, 3, 6, 9, 10] []
abbrev f3o9 : List (Nat × Pop) := [
  (0, ⟨(some 52), .mv (.tmp 9), none⟩),
  (1, ⟨(some 53), .mv (.tmp 10), none⟩),
  (2, ⟨(some 54), .callq 19 [(.tmp 52), (.tmp 53)], none⟩),
  (3, ⟨(some 55), .mv (.tmp 54), none⟩),
  (4, ⟨(some 56), .mv (.tmp 0), (some (55, true))⟩),
  (5, ⟨(some 57), .mv (.tmp 1), (some (55, true))⟩),
  (6, ⟨(some 58), .callq 20 [(.tmp 56), (.tmp 57)], (some (55, true))⟩),
  (7, ⟨(some 59), .mv (.tmp 0), (some (55, true))⟩),
  (8, ⟨(some 60), .mv (.tmp 1), (some (55, true))⟩),
  (9, ⟨(some 61), .callq 18 [(.tmp 59), (.tmp 60)], (some (55, true))⟩),
  (10, ⟨(some 62), .bin .eql (.tmp 58) (.tmp 61), (some (55, true))⟩),
  (11, ⟨(some 63), .pick (.tmp 55) (.tmp 62) (.c (.t (.b false))), none⟩),
  (12, ⟨(some 64), .mv (.tmp 63), none⟩),
  (13, ⟨(some 65), .load true 2 (.tmp 6), (some (64, true))⟩),
  (14, ⟨(some 66), .mv (.tmp 3), (some (64, true))⟩),
  (15, ⟨(some 67), .callq 21 [(.tmp 65), (.tmp 66)], (some (64, true))⟩),
  (16, ⟨(some 68), .load true 2 (.tmp 6), (some (64, true))⟩),
  (17, ⟨(some 69), .mv (.tmp 3), (some (64, true))⟩),
  (18, ⟨(some 70), .callq 22 [(.tmp 68), (.tmp 69)], (some (64, true))⟩),
  (19, ⟨(some 71), .bin .eql (.tmp 67) (.tmp 70), (some (64, true))⟩),
  (20, ⟨(some 72), .pick (.tmp 64) (.tmp 71) (.c (.t (.b false))), none⟩),
  (21, ⟨(some 73), .mv (.tmp 72), none⟩),
  (22, ⟨(some 74), .callq 16 [], (some (73, true))⟩),
  (23, ⟨(some 75), .pick (.tmp 73) (.tmp 74) (.c (.t (.b false))), none⟩),
  (24, ⟨(some 8), .mv (.tmp 75), none⟩)]
abbrev f3r9 : Pc := .reg f3o9 [8] [6, 24, 26, 45]
abbrev f3b : Pc := (.seq f3r0 (.seq (.seq f3r1 (.cond (.tmp 19) (.seq f3r2 .ret) .skip)) (.seq f3r3 (.seq f3r4 (.seq (.seq f3r5 (.cond (.tmp 38) (.seq (.block 0 (.loop f3l0)) f3r8) .skip)) (.seq f3r9 .ret))))))
abbrev f3 : Pfn := ⟨4, 76, [.tmp 8], f3b⟩
def f3K : Array (List Nat) := #[[0, 1, 3, 6], [0, 1, 3, 6, 19], [8], [0, 1, 3, 6, 9], [0, 1, 3, 6, 9, 10], [0, 1, 3, 6, 9, 10, 38], [0, 1, 3, 6, 9, 10, 42], [0, 1, 3, 6, 9, 10], [0, 1, 3, 6, 9, 10], [8]]
def f3H : Array (List Nat) := #[[], [], [6], [], [], [], [], [], [], [6, 24, 26, 45]]
def f3A : Ann := ⟨fun r => f3K.getD r [], fun r => f3H.getD r [], fun r i => ([(4, 0)] : List (Nat × Nat)).contains (r, i)⟩
theorem f3C : compF Go.Proofs.Try.prog f3A 3 = some f3 := by kernel_rfl

/-- switchboard/switchboardlaw21.LoadAdds -/
abbrev f4o0 : List (Nat × Pop) := [
  (0, ⟨(some 2), .mv (.c (.t (.b false))), none⟩)]
abbrev f4r0 : Pc := .reg f4o0 [0] []
abbrev f4o1 : List (Nat × Pop) := [
  (0, ⟨(some 3), .nilv 3 1, none⟩)]
abbrev f4r1 : Pc := .reg f4o1 [0, 3] []
abbrev f4o2 : List (Nat × Pop) := [
  (0, ⟨(some 4), .alloc 36 [(.t (.i .i64 0)), (.t (.i .i64 0)), (.t (.i .i64 0)), (.t (.i .i64 0)), (.t (.i .i64 0)), (.t (.i .i64 0)), (.t (.i .i64 0)), (.t (.i .i64 0))], none⟩)]
abbrev f4r2 : Pc := .reg f4o2 [0, 3, 4] []
abbrev f4o3 : List (Nat × Pop) := [
  (0, ⟨(some 5), .mv (.c (.t (.i .i64 0))), none⟩)]
abbrev f4r3 : Pc := .reg f4o3 [0, 3, 4, 5] []
abbrev f4o4 : List (Nat × Pop) := [
  (0, ⟨(some 9), .mv (.tmp 5), none⟩),
  (1, ⟨(some 10), .mv (.tmp 0), none⟩),
  (2, ⟨(some 11), .lenL (.tmp 10), none⟩),
  (3, ⟨(some 12), .bin .lss (.tmp 9) (.tmp 11), none⟩),
  (4, ⟨(some 13), .mv (.tmp 12), none⟩),
  (5, ⟨(some 14), .mv (.tmp 5), (some (13, true))⟩),
  (6, ⟨(some 15), .bin .lss (.tmp 14) (.c (.t (.i .i64 100))), (some (13, true))⟩),
  (7, ⟨(some 16), .pick (.tmp 13) (.tmp 15) (.c (.t (.b false))), none⟩)]
abbrev f4r4 : Pc := .reg f4o4 [0, 3, 4, 5, 16] []
abbrev f4o6 : List (Nat × Pop) := [
  (0, ⟨(some 19), .mv (.tmp 0), none⟩),
  (1, ⟨(some 20), .mv (.tmp 5), none⟩),
  (2, ⟨(some 21), .ixS 1 (.tmp 19) (.tmp 20), none⟩),
  (3, ⟨(some 22), .load false 1 (.tmp 21), none⟩),
  (4, ⟨(some 23), .bin .rem (.tmp 22) (.c (.t (.i .u8 10))), none⟩),
  (5, ⟨(some 24), .cvi .i64 (.tmp 23), none⟩),
  (6, ⟨(some 6), .mv (.tmp 24), none⟩)]
abbrev f4r6 : Pc := .reg f4o6 [0, 3, 4, 5, 6] []
abbrev f4o7 : List (Nat × Pop) := [
  (0, ⟨(some 25), .mv (.tmp 3), none⟩),
  (1, ⟨(some 26), .mv (.tmp 6), none⟩),
  (2, ⟨(some 27), .call 17 [(.tmp 25), (.tmp 26)], none⟩),
  (3, ⟨(some 3), .mv (.tmp 27), none⟩)]
abbrev f4r7 : Pc := .reg f4o7 [0, 3, 4, 5, 6] []
abbrev f4o8 : List (Nat × Pop) := [
  (0, ⟨(some 28), .mv (.tmp 6), none⟩),
  (1, ⟨(some 29), .bin .lss (.tmp 28) (.c (.t (.i .i64 8))), none⟩)]
abbrev f4r8 : Pc := .reg f4o8 [0, 3, 4, 5, 6, 29] []
abbrev f4o9 : List (Nat × Pop) := [
  (0, ⟨(some 30), .mv (.tmp 6), none⟩),
  (1, ⟨(some 31), .ixA 8 1 (.tmp 4) (.tmp 30), none⟩),
  (2, ⟨(some 32), .load false 1 (.tmp 31), none⟩),
  (3, ⟨(some 33), .bin .add (.tmp 32) (.c (.t (.i .i64 1))), none⟩),
  (4, ⟨(some 34), .ixA 8 1 (.tmp 4) (.tmp 30), none⟩),
  (5, ⟨none, .store 1 (.tmp 34) (.tmp 33), none⟩)]
abbrev f4r9 : Pc := .reg f4o9 [0, 3, 4, 5] []
abbrev f4o5 : List (Nat × Pop) := [
  (0, ⟨(some 17), .mv (.tmp 5), none⟩),
  (1, ⟨(some 18), .bin .add (.tmp 17) (.c (.t (.i .i64 1))), none⟩),
  (2, ⟨(some 5), .mv (.tmp 18), none⟩)]
abbrev f4r5 : Pc := .reg f4o5 [0, 3, 4, 5] []
def f4l0 : Pc := (.seq (.seq f4r4 (.cond (.tmp 16) .skip (.exit 0))) (.seq (.block 1 (.seq f4r6 (.seq f4r7 (.seq f4r8 (.cond (.tmp 29) f4r9 .skip))))) f4r5))
theorem f4l0e (C : Cfg) (s : St) : evL C f4l0 s = evL C (.seq (.seq f4r4 (.cond (.tmp 16) .skip (.exit 0))) (.seq (.block 1 (.seq f4r6 (.seq f4r7 (.seq f4r8 (.cond (.tmp 29) f4r9 .skip))))) f4r5)) s := rfl
abbrev f4o10 : List (Nat × Pop) := [
  (0, ⟨(some 35), .load true 8 (.tmp 4), none⟩),
  (1, ⟨(some 36), .mv (.c (.t (.i .i64 0))), none⟩)]
abbrev f4r10 : Pc := .reg f4o10 [3, 35, 36] [4]
abbrev f4o11 : List (Nat × Pop) := [
  (0, ⟨(some 37), .bin .lss (.tmp 36) (.c (.t (.i .i64 8))), none⟩)]
abbrev f4r11 : Pc := .reg f4o11 [3, 35, 36, 37] []
abbrev f4o12 : List (Nat × Pop) := [
  (0, ⟨(some 38), .mv (.tmp 36), none⟩),
  (1, ⟨(some 39), .ixV false 8 1 (.tmp 35) (.tmp 36), none⟩),
  (2, ⟨(some 7), .mv (.tmp 38), none⟩),
  (3, ⟨(some 8), .mv (.tmp 39), none⟩)]
abbrev f4r12 : Pc := .reg f4o12 [3, 7, 8, 35, 36] []
abbrev f4o13 : List (Nat × Pop) := [
  (0, ⟨(some 40), .mv (.tmp 3), none⟩),
  (1, ⟨(some 41), .mv (.tmp 7), none⟩),
  (2, ⟨(some 42), .call 20 [(.tmp 40), (.tmp 41)], none⟩),
  (3, ⟨(some 43), .mv (.tmp 8), none⟩),
  (4, ⟨(some 44), .bin .neq (.tmp 42) (.tmp 43), none⟩)]
abbrev f4r13 : Pc := .reg f4o13 [3, 35, 36, 44] []
abbrev f4o14 : List (Nat × Pop) := [
  (0, ⟨(some 2), .mv (.c (.t (.b false))), none⟩)]
abbrev f4r14 : Pc := .reg f4o14 [2] [3]
abbrev f4o15 : List (Nat × Pop) := [
  (0, ⟨(some 45), .bin .add (.tmp 36) (.c (.t (.i .i64 1))), none⟩),
  (1, ⟨(some 36), .mv (.tmp 45), none⟩)]
abbrev f4r15 : Pc := .reg f4o15 [3, 35, 36] []
def f4l1 : Pc := (.seq f4r11 (.seq (.cond (.tmp 37) .skip (.exit 2)) (.seq (.block 3 (.seq f4r12 (.seq f4r13 (.cond (.tmp 44) (.seq f4r14 .ret) .skip)))) f4r15)))
theorem f4l1e (C : Cfg) (s : St) : evL C f4l1 s = evL C (.seq f4r11 (.seq (.cond (.tmp 37) .skip (.exit 2)) (.seq (.block 3 (.seq f4r12 (.seq f4r13 (.cond (.tmp 44) (.seq f4r14 .ret) .skip)))) f4r15))) s := rfl
abbrev f4o16 : List (Nat × Pop) := [
  (0, ⟨(some 46), .mv (.tmp 3), none⟩),
  (1, ⟨(some 47), .lenL (.tmp 46), none⟩),
  (2, ⟨(some 48), .bin .leq (.tmp 47) (.c (.t (.i .i64 8))), none⟩),
  (3, ⟨(some 49), .mv (.tmp 48), none⟩),
  (4, ⟨(some 50), .call 16 [], (some (49, true))⟩),
  (5, ⟨(some 51), .pick (.tmp 49) (.tmp 50) (.c (.t (.b false))), none⟩),
  (6, ⟨(some 2), .mv (.tmp 51), none⟩)]
abbrev f4r16 : Pc := .reg f4o16 [2] [3]
abbrev f4b : Pc := (.seq f4r0 (.seq f4r1 (.seq f4r2 (.seq (.seq f4r3 (.block 0 (.loop f4l0))) (.seq (.seq f4r10 (.block 2 (.loop f4l1))) (.seq f4r16 .ret))))))
abbrev f4 : Pfn := ⟨1, 52, [.tmp 2], f4b⟩
def f4K : Array (List Nat) := #[[0], [0, 3], [0, 3, 4], [0, 3, 4, 5], [0, 3, 4, 5, 16], [0, 3, 4, 5], [0, 3, 4, 5, 6], [0, 3, 4, 5, 6], [0, 3, 4, 5, 6, 29], [0, 3, 4, 5], [3, 35, 36], [3, 35, 36, 37], [3, 7, 8, 35, 36], [3, 35, 36, 44], [2], [3, 35, 36], [2]]
def f4H : Array (List Nat) := #[[], [], [], [], [], [], [], [], [], [], [4], [], [], [], [3], [], [3]]
def f4A : Ann := ⟨fun r => f4K.getD r [], fun r => f4H.getD r [], fun r i => ([] : List (Nat × Nat)).contains (r, i)⟩
theorem f4C : compF Go.Proofs.Try.prog f4A 4 = some f4 := by kernel_rfl

/-- switchboard/switchboardlaw21.LoadSums -/
abbrev f5o0 : List (Nat × Pop) := [
  (0, ⟨(some 2), .box 25 2 (.tmp 0), none⟩),
  (1, ⟨(some 4), .mv (.c (.t (.b false))), none⟩)]
abbrev f5r0 : Pc := .reg f5o0 [1, 2] []
abbrev f5o1 : List (Nat × Pop) := [
  (0, ⟨(some 10), .fad 1 (.tmp 2), none⟩),
  (1, ⟨(some 11), .load false 1 (.tmp 10), none⟩),
  (2, ⟨(some 12), .call 15 [(.tmp 11)], none⟩),
  (3, ⟨(some 13), .un .not (.tmp 12), none⟩),
  (4, ⟨(some 14), .mv (.tmp 13), none⟩),
  (5, ⟨(some 15), .load true 2 (.tmp 2), (some (14, false))⟩),
  (6, ⟨(some 16), .call 23 [(.tmp 15)], (some (14, false))⟩),
  (7, ⟨(some 17), .un .not (.tmp 16), (some (14, false))⟩),
  (8, ⟨(some 18), .pick (.tmp 14) (.c (.t (.b true))) (.tmp 17), none⟩)]
abbrev f5r1 : Pc := .reg f5o1 [1, 2, 18] []
abbrev f5o2 : List (Nat × Pop) := [
  (0, ⟨(some 19), .call 16 [], none⟩),
  (1, ⟨(some 4), .mv (.tmp 19), none⟩)]
abbrev f5r2 : Pc := .reg f5o2 [4] [2]
abbrev f5o3 : List (Nat × Pop) := [
  (0, ⟨(some 5), .mv (.c (.t (.i .i64 0))), none⟩),
  (1, ⟨(some 6), .mv (.c (.t (.i .i64 0))), none⟩)]
abbrev f5r3 : Pc := .reg f5o3 [1, 2, 5, 6] []
abbrev f5o4 : List (Nat × Pop) := [
  (0, ⟨(some 7), .mv (.c (.t (.i .i64 1))), none⟩)]
abbrev f5r4 : Pc := .reg f5o4 [1, 2, 5, 6, 7] []
abbrev f5o5 : List (Nat × Pop) := [
  (0, ⟨(some 20), .mv (.tmp 7), none⟩),
  (1, ⟨(some 21), .bin .lss (.tmp 20) (.c (.t (.i .i64 5))), none⟩)]
abbrev f5r5 : Pc := .reg f5o5 [1, 2, 5, 6, 7, 21] []
abbrev f5o7 : List (Nat × Pop) := [
  (0, ⟨(some 24), .mv (.tmp 5), none⟩),
  (1, ⟨(some 25), .load true 2 (.tmp 2), none⟩),
  (2, ⟨(some 26), .mv (.tmp 7), none⟩),
  (3, ⟨(some 27), .call 21 [(.tmp 25), (.tmp 26)], none⟩),
  (4, ⟨(some 28), .bin .add (.tmp 24) (.tmp 27), none⟩),
  (5, ⟨(some 5), .mv (.tmp 28), none⟩)]
abbrev f5r7 : Pc := .reg f5o7 [1, 2, 5, 6, 7] []
abbrev f5o6 : List (Nat × Pop) := [
  (0, ⟨(some 22), .mv (.tmp 7), none⟩),
  (1, ⟨(some 23), .bin .add (.tmp 22) (.c (.t (.i .i64 1))), none⟩),
  (2, ⟨(some 7), .mv (.tmp 23), none⟩)]
abbrev f5r6 : Pc := .reg f5o6 [1, 2, 5, 6, 7] []
def f5l0 : Pc := (.seq (.seq f5r5 (.cond (.tmp 21) .skip (.exit 0))) (.seq (.block 1 f5r7) f5r6))
theorem f5l0e (C : Cfg) (s : St) : evL C f5l0 s = evL C (.seq (.seq f5r5 (.cond (.tmp 21) .skip (.exit 0))) (.seq (.block 1 f5r7) f5r6)) s := rfl
abbrev f5o8 : List (Nat × Pop) := [
  (0, ⟨(some 29), .fad 1 (.tmp 2), none⟩),
  (1, ⟨(some 30), .load false 1 (.tmp 29), none⟩),
  (2, ⟨(some 31), .lenL (.tmp 30), none⟩),
  (3, ⟨(some 32), .mv (.c (.t (.i .i64 0))), none⟩)]
abbrev f5r8 : Pc := .reg f5o8 [1, 2, 5, 6, 30, 31, 32] []
abbrev f5o9 : List (Nat × Pop) := [
  (0, ⟨(some 33), .bin .lss (.tmp 32) (.tmp 31), none⟩)]
abbrev f5r9 : Pc := .reg f5o9 [1, 2, 5, 6, 30, 31, 32, 33] []
abbrev f5o10 : List (Nat × Pop) := [
  (0, ⟨(some 34), .ixS 1 (.tmp 30) (.tmp 32), none⟩),
  (1, ⟨(some 35), .load false 1 (.tmp 34), none⟩),
  (2, ⟨(some 9), .mv (.tmp 35), none⟩)]
abbrev f5r10 : Pc := .reg f5o10 [1, 2, 5, 6, 9, 30, 31, 32] []
abbrev f5o11 : List (Nat × Pop) := [
  (0, ⟨(some 36), .mv (.tmp 6), none⟩),
  (1, ⟨(some 37), .mv (.tmp 9), none⟩),
  (2, ⟨(some 38), .lenL (.tmp 37), none⟩),
  (3, ⟨(some 39), .bin .add (.tmp 36) (.tmp 38), none⟩),
  (4, ⟨(some 6), .mv (.tmp 39), none⟩)]
abbrev f5r11 : Pc := .reg f5o11 [1, 2, 5, 6, 30, 31, 32] []
abbrev f5o12 : List (Nat × Pop) := [
  (0, ⟨(some 40), .bin .add (.tmp 32) (.c (.t (.i .i64 1))), none⟩),
  (1, ⟨(some 32), .mv (.tmp 40), none⟩)]
abbrev f5r12 : Pc := .reg f5o12 [1, 2, 5, 6, 30, 31, 32] []
def f5l1 : Pc := (.seq f5r9 (.seq (.cond (.tmp 33) .skip (.exit 2)) (.seq (.block 3 (.seq f5r10 f5r11)) f5r12)))
theorem f5l1e (C : Cfg) (s : St) : evL C f5l1 s = evL C (.seq f5r9 (.seq (.cond (.tmp 33) .skip (.exit 2)) (.seq (.block 3 (.seq f5r10 f5r11)) f5r12))) s := rfl
abbrev f5o13 : List (Nat × Pop) := [
  (0, ⟨(some 41), .mv (.tmp 5), none⟩),
  (1, ⟨(some 42), .mv (.tmp 6), none⟩),
  (2, ⟨(some 43), .bin .eql (.tmp 41) (.tmp 42), none⟩),
  (3, ⟨(some 44), .mv (.tmp 43), none⟩),
  (4, ⟨(some 45), .mv (.tmp 1), (some (44, true))⟩),
  (5, ⟨(some 46), .bin .geq (.tmp 45) (.c (.t (.i .i64 1))), (some (44, true))⟩),
  (6, ⟨(some 47), .mv (.tmp 46), (some (44, true))⟩),
  (7, ⟨(some 48), .mv (.tmp 1), (some (47, true))⟩),
  (8, ⟨(some 49), .bin .leq (.tmp 48) (.c (.t (.i .i64 4))), (some (47, true))⟩),
  (9, ⟨(some 50), .pick (.tmp 47) (.tmp 49) (.c (.t (.b false))), (some (44, true))⟩),
  (10, ⟨(some 51), .mv (.tmp 50), (some (44, true))⟩),
  (11, ⟨(some 52), .load true 2 (.tmp 2), (some (51, false))⟩),
  (12, ⟨(some 53), .mv (.tmp 1), (some (51, false))⟩),
  (13, ⟨(some 54), .call 21 [(.tmp 52), (.tmp 53)], (some (51, false))⟩),
  (14, ⟨(some 55), .bin .eql (.tmp 54) (.c (.t (.i .i64 0))), (some (51, false))⟩),
  (15, ⟨(some 56), .pick (.tmp 51) (.c (.t (.b true))) (.tmp 55), (some (44, true))⟩),
  (16, ⟨(some 57), .pick (.tmp 44) (.tmp 56) (.c (.t (.b false))), none⟩),
  (17, ⟨(some 58), .mv (.tmp 57), none⟩),
  (18, ⟨(some 59), .call 16 [], (some (58, true))⟩),
  (19, ⟨(some 60), .pick (.tmp 58) (.tmp 59) (.c (.t (.b false))), none⟩),
  (20, ⟨(some 4), .mv (.tmp 60), none⟩)]
abbrev f5r13 : Pc := .reg f5o13 [4] [2]
abbrev f5b : Pc := (.seq f5r0 (.seq (.seq f5r1 (.cond (.tmp 18) (.seq f5r2 .ret) .skip)) (.seq f5r3 (.seq (.seq f5r4 (.block 0 (.loop f5l0))) (.seq (.seq f5r8 (.block 2 (.loop f5l1))) (.seq f5r13 .ret))))))
abbrev f5 : Pfn := ⟨2, 61, [.tmp 4], f5b⟩
def f5K : Array (List Nat) := #[[1, 2], [1, 2, 18], [4], [1, 2, 5, 6], [1, 2, 5, 6, 7], [1, 2, 5, 6, 7, 21], [1, 2, 5, 6, 7], [1, 2, 5, 6, 7], [1, 2, 5, 6, 30, 31, 32], [1, 2, 5, 6, 30, 31, 32, 33], [1, 2, 5, 6, 9, 30, 31, 32], [1, 2, 5, 6, 30, 31, 32], [1, 2, 5, 6, 30, 31, 32], [4]]
def f5H : Array (List Nat) := #[[], [], [2], [], [], [], [], [], [], [], [], [], [], [2]]
def f5A : Ann := ⟨fun r => f5K.getD r [], fun r => f5H.getD r [], fun r i => ([] : List (Nat × Nat)).contains (r, i)⟩
theorem f5C : compF Go.Proofs.Try.prog f5A 5 = some f5 := by kernel_rfl

/-- switchboard/switchboardlaw21.LoadMore -/
abbrev f6o0 : List (Nat × Pop) := [
  (0, ⟨(some 4), .box 25 2 (.tmp 1), none⟩),
  (1, ⟨(some 6), .mv (.c (.t (.b false))), none⟩)]
abbrev f6r0 : Pc := .reg f6o0 [0, 2, 4] []
abbrev f6o1 : List (Nat × Pop) := [
  (0, ⟨(some 16), .mv (.tmp 0), none⟩),
  (1, ⟨(some 17), .lenL (.tmp 16), none⟩),
  (2, ⟨(some 18), .bin .gtr (.tmp 17) (.c (.t (.i .i64 8))), none⟩),
  (3, ⟨(some 19), .mv (.tmp 18), none⟩),
  (4, ⟨(some 20), .fad 1 (.tmp 4), (some (19, false))⟩),
  (5, ⟨(some 21), .load false 1 (.tmp 20), (some (19, false))⟩),
  (6, ⟨(some 22), .call 15 [(.tmp 21)], (some (19, false))⟩),
  (7, ⟨(some 23), .un .not (.tmp 22), (some (19, false))⟩),
  (8, ⟨(some 24), .pick (.tmp 19) (.c (.t (.b true))) (.tmp 23), none⟩)]
abbrev f6r1 : Pc := .reg f6o1 [0, 2, 4, 24] []
abbrev f6o2 : List (Nat × Pop) := [
  (0, ⟨(some 25), .call 16 [], none⟩),
  (1, ⟨(some 6), .mv (.tmp 25), none⟩)]
abbrev f6r2 : Pc := .reg f6o2 [6] [4]
abbrev f6o3 : List (Nat × Pop) := [
  (0, ⟨(some 7), .nilv 3 1, none⟩)]
abbrev f6r3 : Pc := .reg f6o3 [0, 2, 4, 7] []
abbrev f6o4 : List (Nat × Pop) := [
  (0, ⟨(some 26), .mv (.tmp 0), none⟩),
  (1, ⟨(some 27), .lenL (.tmp 26), none⟩),
  (2, ⟨(some 28), .mv (.c (.t (.i .i64 0))), none⟩)]
abbrev f6r4 : Pc := .reg f6o4 [2, 4, 7, 26, 27, 28] []
abbrev f6o5 : List (Nat × Pop) := [
  (0, ⟨(some 29), .bin .lss (.tmp 28) (.tmp 27), none⟩)]
abbrev f6r5 : Pc := .reg f6o5 [2, 4, 7, 26, 27, 28, 29] []
abbrev f6o6 : List (Nat × Pop) := [
  (0, ⟨(some 30), .ixS 1 (.tmp 26) (.tmp 28), none⟩),
  (1, ⟨(some 31), .load false 1 (.tmp 30), none⟩),
  (2, ⟨(some 9), .mv (.tmp 31), none⟩)]
abbrev f6r6 : Pc := .reg f6o6 [2, 4, 7, 9, 26, 27, 28] []
abbrev f6o7 : List (Nat × Pop) := [
  (0, ⟨(some 32), .mv (.tmp 7), none⟩),
  (1, ⟨(some 33), .mv (.tmp 9), none⟩),
  (2, ⟨(some 34), .bin .rem (.tmp 33) (.c (.t (.i .u32 2147483646))), none⟩),
  (3, ⟨(some 35), .cvi .i64 (.tmp 34), none⟩),
  (4, ⟨(some 36), .bslT 1 [(.tmp 35)], none⟩),
  (5, ⟨(some 37), .app 3 1 8 (.tmp 32) (.tmp 36), none⟩),
  (6, ⟨(some 7), .mv (.tmp 37), none⟩)]
abbrev f6r7 : Pc := .reg f6o7 [2, 4, 7, 26, 27, 28] []
abbrev f6o8 : List (Nat × Pop) := [
  (0, ⟨(some 38), .bin .add (.tmp 28) (.c (.t (.i .i64 1))), none⟩),
  (1, ⟨(some 28), .mv (.tmp 38), none⟩)]
abbrev f6r8 : Pc := .reg f6o8 [2, 4, 7, 26, 27, 28] []
def f6l0 : Pc := (.seq f6r5 (.seq (.cond (.tmp 29) .skip (.exit 0)) (.seq (.block 1 (.seq f6r6 f6r7)) f6r8)))
theorem f6l0e (C : Cfg) (s : St) : evL C f6l0 s = evL C (.seq f6r5 (.seq (.cond (.tmp 29) .skip (.exit 0)) (.seq (.block 1 (.seq f6r6 f6r7)) f6r8))) s := rfl
abbrev f6o9 : List (Nat × Pop) := [
  (0, ⟨(some 40), .mv (.tmp 7), none⟩),
  (1, ⟨(some 41), .load true 2 (.tmp 4), none⟩),
  (2, ⟨(some 42), .mv (.tmp 2), none⟩),
  (3, ⟨(some 43), .call 24 [(.tmp 40), (.tmp 41), (.tmp 42)], none⟩),
  (4, ⟨(some 39), .mv (.tmp 43), none⟩),
  (5, ⟨(some 44), .ext 0 (.tmp 39), none⟩),
  (6, ⟨(some 45), .ext 1 (.tmp 39), none⟩),
  (7, ⟨(some 46), .ext 2 (.tmp 39), none⟩),
  (8, ⟨(some 10), .mv (.tmp 44), none⟩),
  (9, ⟨(some 11), .mv (.tmp 45), none⟩),
  (10, ⟨(some 12), .mv (.tmp 46), none⟩)]
abbrev f6r9 : Pc := .reg f6o9 [2, 4, 7, 10, 11, 12] []
abbrev f6o10 : List (Nat × Pop) := [
  (0, ⟨(some 47), .mv (.tmp 12), none⟩),
  (1, ⟨(some 48), .un .not (.tmp 47), none⟩)]
abbrev f6r10 : Pc := .reg f6o10 [2, 4, 7, 10, 11, 48] []
abbrev f6o11 : List (Nat × Pop) := [
  (0, ⟨(some 49), .mv (.tmp 10), none⟩),
  (1, ⟨(some 50), .bin .eql (.tmp 49) (.c (.t (.i .i64 0))), none⟩),
  (2, ⟨(some 51), .mv (.tmp 50), none⟩),
  (3, ⟨(some 52), .mv (.tmp 11), (some (51, true))⟩),
  (4, ⟨(some 53), .bin .eql (.tmp 52) (.c (.t (.i .i64 0))), (some (51, true))⟩),
  (5, ⟨(some 54), .pick (.tmp 51) (.tmp 53) (.c (.t (.b false))), none⟩),
  (6, ⟨(some 55), .mv (.tmp 54), none⟩),
  (7, ⟨(some 56), .call 16 [], (some (55, true))⟩),
  (8, ⟨(some 57), .pick (.tmp 55) (.tmp 56) (.c (.t (.b false))), none⟩),
  (9, ⟨(some 6), .mv (.tmp 57), none⟩)]
abbrev f6r11 : Pc := .reg f6o11 [6] [4, 7, 37]
abbrev f6o12 : List (Nat × Pop) := [
  (0, ⟨(some 59), .mv (.tmp 7), none⟩),
  (1, ⟨(some 60), .mv (.tmp 10), none⟩),
  (2, ⟨(some 61), .callq 17 [(.tmp 59), (.tmp 60)], none⟩),
  (3, ⟨(some 62), .load true 2 (.tmp 4), none⟩),
  (4, ⟨(some 63), .mv (.tmp 2), none⟩),
  (5, ⟨(some 64), .callq 24 [(.tmp 61), (.tmp 62), (.tmp 63)], none⟩),
  (6, ⟨(some 58), .mv (.tmp 64), none⟩),
  (7, ⟨(some 65), .ext 0 (.tmp 58), none⟩),
  (8, ⟨(some 66), .ext 1 (.tmp 58), none⟩),
  (9, ⟨(some 67), .ext 2 (.tmp 58), none⟩),
  (10, ⟨(some 13), .mv (.tmp 65), none⟩),
  (11, ⟨(some 14), .mv (.tmp 66), none⟩),
  (12, ⟨(some 15), .mv (.tmp 67), none⟩)]
abbrev f6r12 : Pc := .reg f6o12 [10, 11, 13, 14, 15] [4]
abbrev f6o13 : List (Nat × Pop) := [
  (0, ⟨(some 68), .mv (.tmp 15), none⟩),
  (1, ⟨(some 69), .mv (.tmp 68), none⟩),
  (2, ⟨(some 70), .mv (.tmp 10), (some (69, true))⟩),
  (3, ⟨(some 71), .mv (.tmp 13), (some (69, true))⟩),
  (4, ⟨(some 72), .bin .eql (.tmp 70) (.tmp 71), (some (69, true))⟩),
  (5, ⟨(some 73), .pick (.tmp 69) (.tmp 72) (.c (.t (.b false))), none⟩),
  (6, ⟨(some 74), .mv (.tmp 73), none⟩),
  (7, ⟨(some 75), .mv (.tmp 11), (some (74, true))⟩),
  (8, ⟨(some 76), .mv (.tmp 14), (some (74, true))⟩),
  (9, ⟨(some 77), .bin .eql (.tmp 75) (.tmp 76), (some (74, true))⟩),
  (10, ⟨(some 78), .pick (.tmp 74) (.tmp 77) (.c (.t (.b false))), none⟩),
  (11, ⟨(some 79), .mv (.tmp 78), none⟩),
  (12, ⟨(some 80), .call 16 [], (some (79, true))⟩),
  (13, ⟨(some 81), .pick (.tmp 79) (.tmp 80) (.c (.t (.b false))), none⟩),
  (14, ⟨(some 6), .mv (.tmp 81), none⟩)]
abbrev f6r13 : Pc := .reg f6o13 [6] [7, 37]
abbrev f6b : Pc := (.seq f6r0 (.seq (.seq f6r1 (.cond (.tmp 24) (.seq f6r2 .ret) .skip)) (.seq f6r3 (.seq (.seq f6r4 (.block 0 (.loop f6l0))) (.seq f6r9 (.seq (.seq f6r10 (.cond (.tmp 48) (.seq f6r11 .ret) .skip)) (.seq f6r12 (.seq f6r13 .ret))))))))
abbrev f6 : Pfn := ⟨3, 82, [.tmp 6], f6b⟩
def f6K : Array (List Nat) := #[[0, 2, 4], [0, 2, 4, 24], [6], [0, 2, 4, 7], [2, 4, 7, 26, 27, 28], [2, 4, 7, 26, 27, 28, 29], [2, 4, 7, 9, 26, 27, 28], [2, 4, 7, 26, 27, 28], [2, 4, 7, 26, 27, 28], [2, 4, 7, 10, 11, 12], [2, 4, 7, 10, 11, 48], [6], [10, 11, 13, 14, 15], [6]]
def f6H : Array (List Nat) := #[[], [], [4], [], [], [], [], [], [], [], [], [4, 7, 37], [4], [7, 37]]
def f6A : Ann := ⟨fun r => f6K.getD r [], fun r => f6H.getD r [], fun r i => ([] : List (Nat × Nat)).contains (r, i)⟩
theorem f6C : compF Go.Proofs.Try.prog f6A 6 = some f6 := by kernel_rfl

/-- switchboard/switchboardlaw21.LoadTells -/
abbrev f7o0 : List (Nat × Pop) := [
  (0, ⟨(some 4), .box 25 2 (.tmp 1), none⟩),
  (1, ⟨(some 6), .mv (.c (.t (.b false))), none⟩)]
abbrev f7r0 : Pc := .reg f7o0 [0, 2, 4] []
abbrev f7o1 : List (Nat × Pop) := [
  (0, ⟨(some 20), .mv (.tmp 0), none⟩),
  (1, ⟨(some 21), .lenL (.tmp 20), none⟩),
  (2, ⟨(some 22), .bin .gtr (.tmp 21) (.c (.t (.i .i64 60))), none⟩),
  (3, ⟨(some 23), .mv (.tmp 22), none⟩),
  (4, ⟨(some 24), .fad 1 (.tmp 4), (some (23, false))⟩),
  (5, ⟨(some 25), .load false 1 (.tmp 24), (some (23, false))⟩),
  (6, ⟨(some 26), .call 15 [(.tmp 25)], (some (23, false))⟩),
  (7, ⟨(some 27), .un .not (.tmp 26), (some (23, false))⟩),
  (8, ⟨(some 28), .pick (.tmp 23) (.c (.t (.b true))) (.tmp 27), none⟩)]
abbrev f7r1 : Pc := .reg f7o1 [0, 2, 4, 28] []
abbrev f7o2 : List (Nat × Pop) := [
  (0, ⟨(some 29), .call 16 [], none⟩),
  (1, ⟨(some 6), .mv (.tmp 29), none⟩)]
abbrev f7r2 : Pc := .reg f7o2 [6] [4]
abbrev f7o3 : List (Nat × Pop) := [
  (0, ⟨(some 31), .mv (.tmp 0), none⟩),
  (1, ⟨(some 32), .load true 2 (.tmp 4), none⟩),
  (2, ⟨(some 33), .mv (.tmp 2), none⟩),
  (3, ⟨(some 34), .call 24 [(.tmp 31), (.tmp 32), (.tmp 33)], none⟩),
  (4, ⟨(some 30), .mv (.tmp 34), none⟩),
  (5, ⟨(some 35), .ext 0 (.tmp 30), none⟩),
  (6, ⟨(some 36), .ext 1 (.tmp 30), none⟩),
  (7, ⟨(some 37), .ext 2 (.tmp 30), none⟩),
  (8, ⟨(some 7), .mv (.tmp 35), none⟩),
  (9, ⟨(some 8), .mv (.tmp 36), none⟩),
  (10, ⟨(some 9), .mv (.tmp 37), none⟩)]
abbrev f7r3 : Pc := .reg f7o3 [0, 2, 4, 7, 8, 9] []
abbrev f7o4 : List (Nat × Pop) := [
  (0, ⟨(some 39), .mv (.tmp 0), none⟩),
  (1, ⟨(some 40), .load true 2 (.tmp 4), none⟩),
  (2, ⟨(some 41), .mv (.tmp 2), none⟩),
  (3, ⟨(some 42), .call 25 [(.tmp 39), (.tmp 40), (.tmp 41)], none⟩),
  (4, ⟨(some 38), .mv (.tmp 42), none⟩),
  (5, ⟨(some 43), .ext 0 (.tmp 38), none⟩),
  (6, ⟨(some 44), .ext 1 (.tmp 38), none⟩),
  (7, ⟨(some 45), .ext 2 (.tmp 38), none⟩),
  (8, ⟨(some 10), .mv (.tmp 43), none⟩),
  (9, ⟨(some 11), .mv (.tmp 44), none⟩),
  (10, ⟨(some 12), .mv (.tmp 45), none⟩)]
abbrev f7r4 : Pc := .reg f7o4 [0, 2, 4, 7, 8, 9, 10, 11, 12] []
abbrev f7o5 : List (Nat × Pop) := [
  (0, ⟨(some 46), .load true 2 (.tmp 4), none⟩),
  (1, ⟨(some 13), .alloc 33 [(.t (.i .i64 0)), .nl], none⟩),
  (2, ⟨none, .store 2 (.tmp 13) (.tmp 46), none⟩)]
abbrev f7r5 : Pc := .reg f7o5 [0, 2, 7, 8, 9, 10, 11, 12, 13] [4]
abbrev f7o6 : List (Nat × Pop) := [
  (0, ⟨(some 48), .mv (.tmp 0), none⟩),
  (1, ⟨(some 49), .load true 2 (.tmp 13), none⟩),
  (2, ⟨(some 50), .mv (.tmp 2), none⟩),
  (3, ⟨(some 51), .call 26 [(.tmp 48), (.tmp 49), (.tmp 50)], none⟩),
  (4, ⟨(some 47), .mv (.tmp 51), none⟩),
  (5, ⟨(some 52), .ext 0 (.tmp 47), none⟩),
  (6, ⟨(some 53), .ext 1 (.tmp 47), none⟩),
  (7, ⟨(some 54), .ext 2 (.tmp 47), none⟩),
  (8, ⟨(some 14), .mv (.tmp 52), none⟩),
  (9, ⟨(some 15), .mv (.tmp 53), none⟩),
  (10, ⟨(some 16), .mv (.tmp 54), none⟩)]
abbrev f7r6 : Pc := .reg f7o6 [0, 2, 7, 8, 9, 10, 11, 12, 13, 14, 15, 16] []
abbrev f7o7 : List (Nat × Pop) := [
  (0, ⟨(some 56), .mv (.tmp 0), none⟩),
  (1, ⟨(some 57), .load true 2 (.tmp 13), none⟩),
  (2, ⟨(some 58), .mv (.tmp 2), none⟩),
  (3, ⟨(some 59), .call 27 [(.tmp 56), (.tmp 57), (.tmp 58)], none⟩),
  (4, ⟨(some 55), .mv (.tmp 59), none⟩),
  (5, ⟨(some 60), .ext 0 (.tmp 55), none⟩),
  (6, ⟨(some 61), .ext 1 (.tmp 55), none⟩),
  (7, ⟨(some 62), .ext 2 (.tmp 55), none⟩),
  (8, ⟨(some 17), .mv (.tmp 60), none⟩),
  (9, ⟨(some 18), .mv (.tmp 61), none⟩),
  (10, ⟨(some 19), .mv (.tmp 62), none⟩)]
abbrev f7r7 : Pc := .reg f7o7 [7, 8, 9, 10, 11, 12, 14, 15, 16, 17, 18, 19] [13]
abbrev f7o8 : List (Nat × Pop) := [
  (0, ⟨(some 63), .mv (.tmp 7), none⟩),
  (1, ⟨(some 64), .mv (.tmp 14), none⟩),
  (2, ⟨(some 65), .bin .eql (.tmp 63) (.tmp 64), none⟩),
  (3, ⟨(some 66), .mv (.tmp 65), none⟩),
  (4, ⟨(some 67), .mv (.tmp 8), (some (66, true))⟩),
  (5, ⟨(some 68), .mv (.tmp 15), (some (66, true))⟩),
  (6, ⟨(some 69), .bin .eql (.tmp 67) (.tmp 68), (some (66, true))⟩),
  (7, ⟨(some 70), .pick (.tmp 66) (.tmp 69) (.c (.t (.b false))), none⟩),
  (8, ⟨(some 71), .mv (.tmp 70), none⟩),
  (9, ⟨(some 72), .mv (.tmp 9), (some (71, true))⟩),
  (10, ⟨(some 73), .mv (.tmp 16), (some (71, true))⟩),
  (11, ⟨(some 74), .beq false (.tmp 72) (.tmp 73), (some (71, true))⟩),
  (12, ⟨(some 75), .pick (.tmp 71) (.tmp 74) (.c (.t (.b false))), none⟩),
  (13, ⟨(some 76), .mv (.tmp 75), none⟩),
  (14, ⟨(some 77), .mv (.tmp 10), (some (76, true))⟩),
  (15, ⟨(some 78), .mv (.tmp 17), (some (76, true))⟩),
  (16, ⟨(some 79), .bin .eql (.tmp 77) (.tmp 78), (some (76, true))⟩),
  (17, ⟨(some 80), .pick (.tmp 76) (.tmp 79) (.c (.t (.b false))), none⟩),
  (18, ⟨(some 81), .mv (.tmp 80), none⟩),
  (19, ⟨(some 82), .mv (.tmp 11), (some (81, true))⟩),
  (20, ⟨(some 83), .mv (.tmp 18), (some (81, true))⟩),
  (21, ⟨(some 84), .bin .eql (.tmp 82) (.tmp 83), (some (81, true))⟩),
  (22, ⟨(some 85), .pick (.tmp 81) (.tmp 84) (.c (.t (.b false))), none⟩),
  (23, ⟨(some 86), .mv (.tmp 85), none⟩),
  (24, ⟨(some 87), .mv (.tmp 12), (some (86, true))⟩),
  (25, ⟨(some 88), .mv (.tmp 19), (some (86, true))⟩),
  (26, ⟨(some 89), .beq false (.tmp 87) (.tmp 88), (some (86, true))⟩),
  (27, ⟨(some 90), .pick (.tmp 86) (.tmp 89) (.c (.t (.b false))), none⟩),
  (28, ⟨(some 91), .mv (.tmp 90), none⟩),
  (29, ⟨(some 92), .call 16 [], (some (91, true))⟩),
  (30, ⟨(some 93), .pick (.tmp 91) (.tmp 92) (.c (.t (.b false))), none⟩),
  (31, ⟨(some 6), .mv (.tmp 93), none⟩)]
abbrev f7r8 : Pc := .reg f7o8 [6] []
abbrev f7b : Pc := (.seq f7r0 (.seq (.seq f7r1 (.cond (.tmp 28) (.seq f7r2 .ret) .skip)) (.seq f7r3 (.seq f7r4 (.seq f7r5 (.seq f7r6 (.seq f7r7 (.seq f7r8 .ret))))))))
abbrev f7 : Pfn := ⟨3, 94, [.tmp 6], f7b⟩
def f7K : Array (List Nat) := #[[0, 2, 4], [0, 2, 4, 28], [6], [0, 2, 4, 7, 8, 9], [0, 2, 4, 7, 8, 9, 10, 11, 12], [0, 2, 7, 8, 9, 10, 11, 12, 13], [0, 2, 7, 8, 9, 10, 11, 12, 13, 14, 15, 16], [7, 8, 9, 10, 11, 12, 14, 15, 16, 17, 18, 19], [6]]
def f7H : Array (List Nat) := #[[], [], [4], [], [], [4], [], [13], []]
def f7A : Ann := ⟨fun r => f7K.getD r [], fun r => f7H.getD r [], fun r i => ([] : List (Nat × Nat)).contains (r, i)⟩
theorem f7C : compF Go.Proofs.Try.prog f7A 7 = some f7 := by kernel_rfl

/-- switchboard/switchboardlaw21.LoadCalm -/
abbrev f8o0 : List (Nat × Pop) := [
  (0, ⟨(some 4), .box 25 2 (.tmp 1), none⟩),
  (1, ⟨(some 6), .mv (.c (.t (.b false))), none⟩)]
abbrev f8r0 : Pc := .reg f8o0 [0, 2, 4] []
abbrev f8o1 : List (Nat × Pop) := [
  (0, ⟨(some 18), .mv (.tmp 0), none⟩),
  (1, ⟨(some 19), .lenL (.tmp 18), none⟩),
  (2, ⟨(some 20), .bin .gtr (.tmp 19) (.c (.t (.i .i64 60))), none⟩),
  (3, ⟨(some 21), .mv (.tmp 20), none⟩),
  (4, ⟨(some 22), .fad 1 (.tmp 4), (some (21, false))⟩),
  (5, ⟨(some 23), .load false 1 (.tmp 22), (some (21, false))⟩),
  (6, ⟨(some 24), .call 15 [(.tmp 23)], (some (21, false))⟩),
  (7, ⟨(some 25), .un .not (.tmp 24), (some (21, false))⟩),
  (8, ⟨(some 26), .pick (.tmp 21) (.c (.t (.b true))) (.tmp 25), none⟩)]
abbrev f8r1 : Pc := .reg f8o1 [0, 2, 4, 26] []
abbrev f8o2 : List (Nat × Pop) := [
  (0, ⟨(some 27), .call 16 [], none⟩),
  (1, ⟨(some 6), .mv (.tmp 27), none⟩)]
abbrev f8r2 : Pc := .reg f8o2 [6] [4]
abbrev f8o3 : List (Nat × Pop) := [
  (0, ⟨(some 28), .mv (.tmp 2), none⟩),
  (1, ⟨(some 29), .bin .rem (.tmp 28) (.c (.t (.i .u32 1048576))), none⟩),
  (2, ⟨(some 30), .cvi .i64 (.tmp 29), none⟩),
  (3, ⟨(some 31), .bin .add (.c (.t (.i .i64 1))) (.tmp 30), none⟩),
  (4, ⟨(some 7), .mv (.tmp 31), none⟩)]
abbrev f8r3 : Pc := .reg f8o3 [0, 4, 7] []
abbrev f8o4 : List (Nat × Pop) := [
  (0, ⟨(some 8), .nilv 3 1, none⟩),
  (1, ⟨(some 9), .nilv 3 1, none⟩)]
abbrev f8r4 : Pc := .reg f8o4 [0, 4, 7, 8, 9] []
abbrev f8o5 : List (Nat × Pop) := [
  (0, ⟨(some 32), .mv (.tmp 0), none⟩),
  (1, ⟨(some 33), .lenL (.tmp 32), none⟩),
  (2, ⟨(some 34), .mv (.c (.t (.i .i64 0))), none⟩)]
abbrev f8r5 : Pc := .reg f8o5 [4, 7, 8, 9, 32, 33, 34] []
abbrev f8o6 : List (Nat × Pop) := [
  (0, ⟨(some 35), .bin .lss (.tmp 34) (.tmp 33), none⟩)]
abbrev f8r6 : Pc := .reg f8o6 [4, 7, 8, 9, 32, 33, 34, 35] []
abbrev f8o7 : List (Nat × Pop) := [
  (0, ⟨(some 36), .ixS 1 (.tmp 32) (.tmp 34), none⟩),
  (1, ⟨(some 37), .load false 1 (.tmp 36), none⟩),
  (2, ⟨(some 11), .mv (.tmp 37), none⟩)]
abbrev f8r7 : Pc := .reg f8o7 [4, 7, 8, 9, 11, 32, 33, 34] []
abbrev f8o8 : List (Nat × Pop) := [
  (0, ⟨(some 38), .mv (.tmp 8), none⟩),
  (1, ⟨(some 39), .mv (.tmp 11), none⟩),
  (2, ⟨(some 40), .cvi .i64 (.tmp 39), none⟩),
  (3, ⟨(some 41), .mv (.tmp 7), none⟩),
  (4, ⟨(some 42), .mm false [(.tmp 40), (.tmp 41)], none⟩),
  (5, ⟨(some 43), .bslT 1 [(.tmp 42)], none⟩),
  (6, ⟨(some 44), .app 3 1 8 (.tmp 38) (.tmp 43), none⟩),
  (7, ⟨(some 8), .mv (.tmp 44), none⟩)]
abbrev f8r8 : Pc := .reg f8o8 [4, 7, 8, 9, 32, 33, 34] []
abbrev f8o9 : List (Nat × Pop) := [
  (0, ⟨(some 45), .bin .add (.tmp 34) (.c (.t (.i .i64 1))), none⟩),
  (1, ⟨(some 34), .mv (.tmp 45), none⟩)]
abbrev f8r9 : Pc := .reg f8o9 [4, 7, 8, 9, 32, 33, 34] []
def f8l0 : Pc := (.seq f8r6 (.seq (.cond (.tmp 35) .skip (.exit 0)) (.seq (.block 1 (.seq f8r7 f8r8)) f8r9)))
theorem f8l0e (C : Cfg) (s : St) : evL C f8l0 s = evL C (.seq f8r6 (.seq (.cond (.tmp 35) .skip (.exit 0)) (.seq (.block 1 (.seq f8r7 f8r8)) f8r9))) s := rfl
abbrev f8o10 : List (Nat × Pop) := [
  (0, ⟨(some 46), .fad 1 (.tmp 4), none⟩),
  (1, ⟨(some 47), .load false 1 (.tmp 46), none⟩),
  (2, ⟨(some 48), .lenL (.tmp 47), none⟩),
  (3, ⟨(some 49), .mv (.c (.t (.i .i64 0))), none⟩)]
abbrev f8r10 : Pc := .reg f8o10 [4, 7, 8, 9, 48, 49] []
abbrev f8o11 : List (Nat × Pop) := [
  (0, ⟨(some 50), .bin .lss (.tmp 49) (.tmp 48), none⟩)]
abbrev f8r11 : Pc := .reg f8o11 [4, 7, 8, 9, 48, 49, 50] []
abbrev f8o12 : List (Nat × Pop) := [
  (0, ⟨(some 51), .mv (.tmp 9), none⟩),
  (1, ⟨(some 52), .mv (.tmp 7), none⟩),
  (2, ⟨(some 53), .bin .mul (.c (.t (.i .i64 4))) (.tmp 52), none⟩),
  (3, ⟨(some 54), .bslT 1 [(.tmp 53)], none⟩),
  (4, ⟨(some 55), .app 3 1 8 (.tmp 51) (.tmp 54), none⟩),
  (5, ⟨(some 9), .mv (.tmp 55), none⟩)]
abbrev f8r12 : Pc := .reg f8o12 [4, 7, 8, 9, 48, 49] []
abbrev f8o13 : List (Nat × Pop) := [
  (0, ⟨(some 56), .bin .add (.tmp 49) (.c (.t (.i .i64 1))), none⟩),
  (1, ⟨(some 49), .mv (.tmp 56), none⟩)]
abbrev f8r13 : Pc := .reg f8o13 [4, 7, 8, 9, 48, 49] []
def f8l1 : Pc := (.seq f8r11 (.seq (.cond (.tmp 50) .skip (.exit 2)) (.seq (.block 3 f8r12) f8r13)))
theorem f8l1e (C : Cfg) (s : St) : evL C f8l1 s = evL C (.seq f8r11 (.seq (.cond (.tmp 50) .skip (.exit 2)) (.seq (.block 3 f8r12) f8r13))) s := rfl
abbrev f8o14 : List (Nat × Pop) := [
  (0, ⟨(some 58), .mv (.tmp 8), none⟩),
  (1, ⟨(some 59), .load true 2 (.tmp 4), none⟩),
  (2, ⟨(some 60), .mv (.tmp 7), none⟩),
  (3, ⟨(some 61), .call 24 [(.tmp 58), (.tmp 59), (.tmp 60)], none⟩),
  (4, ⟨(some 57), .mv (.tmp 61), none⟩),
  (5, ⟨(some 62), .ext 0 (.tmp 57), none⟩),
  (6, ⟨(some 63), .ext 1 (.tmp 57), none⟩),
  (7, ⟨(some 64), .ext 2 (.tmp 57), none⟩),
  (8, ⟨(some 12), .mv (.tmp 62), none⟩),
  (9, ⟨(some 13), .mv (.tmp 63), none⟩),
  (10, ⟨(some 14), .mv (.tmp 64), none⟩)]
abbrev f8r14 : Pc := .reg f8o14 [4, 7, 9, 14] []
abbrev f8o15 : List (Nat × Pop) := [
  (0, ⟨(some 66), .mv (.tmp 9), none⟩),
  (1, ⟨(some 67), .load true 2 (.tmp 4), none⟩),
  (2, ⟨(some 68), .mv (.tmp 7), none⟩),
  (3, ⟨(some 69), .call 25 [(.tmp 66), (.tmp 67), (.tmp 68)], none⟩),
  (4, ⟨(some 65), .mv (.tmp 69), none⟩),
  (5, ⟨(some 70), .ext 0 (.tmp 65), none⟩),
  (6, ⟨(some 71), .ext 1 (.tmp 65), none⟩),
  (7, ⟨(some 72), .ext 2 (.tmp 65), none⟩),
  (8, ⟨(some 15), .mv (.tmp 70), none⟩),
  (9, ⟨(some 16), .mv (.tmp 71), none⟩),
  (10, ⟨(some 17), .mv (.tmp 72), none⟩)]
abbrev f8r15 : Pc := .reg f8o15 [14, 17] [4]
abbrev f8o16 : List (Nat × Pop) := [
  (0, ⟨(some 73), .mv (.tmp 14), none⟩),
  (1, ⟨(some 74), .un .not (.tmp 73), none⟩),
  (2, ⟨(some 75), .mv (.tmp 74), none⟩),
  (3, ⟨(some 76), .mv (.tmp 17), (some (75, true))⟩),
  (4, ⟨(some 77), .un .not (.tmp 76), (some (75, true))⟩),
  (5, ⟨(some 78), .pick (.tmp 75) (.tmp 77) (.c (.t (.b false))), none⟩),
  (6, ⟨(some 79), .mv (.tmp 78), none⟩),
  (7, ⟨(some 80), .call 16 [], (some (79, true))⟩),
  (8, ⟨(some 81), .pick (.tmp 79) (.tmp 80) (.c (.t (.b false))), none⟩),
  (9, ⟨(some 6), .mv (.tmp 81), none⟩)]
abbrev f8r16 : Pc := .reg f8o16 [6] [8, 9, 44, 55]
abbrev f8b : Pc := (.seq f8r0 (.seq (.seq f8r1 (.cond (.tmp 26) (.seq f8r2 .ret) .skip)) (.seq f8r3 (.seq f8r4 (.seq (.seq f8r5 (.block 0 (.loop f8l0))) (.seq (.seq f8r10 (.block 2 (.loop f8l1))) (.seq f8r14 (.seq f8r15 (.seq f8r16 .ret)))))))))
abbrev f8 : Pfn := ⟨3, 82, [.tmp 6], f8b⟩
def f8K : Array (List Nat) := #[[0, 2, 4], [0, 2, 4, 26], [6], [0, 4, 7], [0, 4, 7, 8, 9], [4, 7, 8, 9, 32, 33, 34], [4, 7, 8, 9, 32, 33, 34, 35], [4, 7, 8, 9, 11, 32, 33, 34], [4, 7, 8, 9, 32, 33, 34], [4, 7, 8, 9, 32, 33, 34], [4, 7, 8, 9, 48, 49], [4, 7, 8, 9, 48, 49, 50], [4, 7, 8, 9, 48, 49], [4, 7, 8, 9, 48, 49], [4, 7, 9, 14], [14, 17], [6]]
def f8H : Array (List Nat) := #[[], [], [4], [], [], [], [], [], [], [], [], [], [], [], [], [4], [8, 9, 44, 55]]
def f8A : Ann := ⟨fun r => f8K.getD r [], fun r => f8H.getD r [], fun r i => ([] : List (Nat × Nat)).contains (r, i)⟩
theorem f8C : compF Go.Proofs.Try.prog f8A 8 = some f8 := by kernel_rfl

/-- switchboard/switchboardlaw21.LoadMay -/
abbrev f14o0 : List (Nat × Pop) := [
  (0, ⟨(some 4), .box 25 2 (.tmp 1), none⟩),
  (1, ⟨(some 6), .mv (.c (.t (.b false))), none⟩)]
abbrev f14r0 : Pc := .reg f14o0 [0, 2, 4] []
abbrev f14o1 : List (Nat × Pop) := [
  (0, ⟨(some 17), .mv (.tmp 0), none⟩),
  (1, ⟨(some 18), .lenL (.tmp 17), none⟩),
  (2, ⟨(some 19), .bin .gtr (.tmp 18) (.c (.t (.i .i64 60))), none⟩),
  (3, ⟨(some 20), .mv (.tmp 19), none⟩),
  (4, ⟨(some 21), .fad 1 (.tmp 4), (some (20, false))⟩),
  (5, ⟨(some 22), .load false 1 (.tmp 21), (some (20, false))⟩),
  (6, ⟨(some 23), .call 15 [(.tmp 22)], (some (20, false))⟩),
  (7, ⟨(some 24), .un .not (.tmp 23), (some (20, false))⟩),
  (8, ⟨(some 25), .pick (.tmp 20) (.c (.t (.b true))) (.tmp 24), none⟩),
  (9, ⟨(some 26), .mv (.tmp 25), none⟩),
  (10, ⟨(some 27), .fad 0 (.tmp 4), (some (26, false))⟩),
  (11, ⟨(some 28), .load false 1 (.tmp 27), (some (26, false))⟩),
  (12, ⟨(some 29), .bin .gtr (.tmp 28) (.c (.t (.i .i64 1073741824))), (some (26, false))⟩),
  (13, ⟨(some 30), .pick (.tmp 26) (.c (.t (.b true))) (.tmp 29), none⟩)]
abbrev f14r1 : Pc := .reg f14o1 [0, 2, 4, 30] []
abbrev f14o2 : List (Nat × Pop) := [
  (0, ⟨(some 31), .call 16 [], none⟩),
  (1, ⟨(some 6), .mv (.tmp 31), none⟩)]
abbrev f14r2 : Pc := .reg f14o2 [6] [4]
abbrev f14o3 : List (Nat × Pop) := [
  (0, ⟨(some 33), .mv (.tmp 0), none⟩),
  (1, ⟨(some 34), .load true 2 (.tmp 4), none⟩),
  (2, ⟨(some 35), .mv (.tmp 2), none⟩),
  (3, ⟨(some 36), .call 24 [(.tmp 33), (.tmp 34), (.tmp 35)], none⟩),
  (4, ⟨(some 32), .mv (.tmp 36), none⟩),
  (5, ⟨(some 37), .ext 0 (.tmp 32), none⟩),
  (6, ⟨(some 38), .ext 1 (.tmp 32), none⟩),
  (7, ⟨(some 39), .ext 2 (.tmp 32), none⟩),
  (8, ⟨(some 7), .mv (.tmp 37), none⟩),
  (9, ⟨(some 8), .mv (.tmp 38), none⟩),
  (10, ⟨(some 9), .mv (.tmp 39), none⟩)]
abbrev f14r3 : Pc := .reg f14o3 [0, 2, 4, 7, 8, 9] []
abbrev f14o4 : List (Nat × Pop) := [
  (0, ⟨(some 41), .mv (.tmp 0), none⟩),
  (1, ⟨(some 42), .load true 2 (.tmp 4), none⟩),
  (2, ⟨(some 43), .mv (.tmp 2), none⟩),
  (3, ⟨(some 44), .call 25 [(.tmp 41), (.tmp 42), (.tmp 43)], none⟩),
  (4, ⟨(some 40), .mv (.tmp 44), none⟩),
  (5, ⟨(some 45), .ext 0 (.tmp 40), none⟩),
  (6, ⟨(some 46), .ext 1 (.tmp 40), none⟩),
  (7, ⟨(some 47), .ext 2 (.tmp 40), none⟩),
  (8, ⟨(some 10), .mv (.tmp 45), none⟩),
  (9, ⟨(some 11), .mv (.tmp 46), none⟩),
  (10, ⟨(some 12), .mv (.tmp 47), none⟩)]
abbrev f14r4 : Pc := .reg f14o4 [4, 7, 8, 9, 10, 11, 12] []
abbrev f14o5 : List (Nat × Pop) := [
  (0, ⟨(some 48), .mv (.tmp 9), none⟩)]
abbrev f14r5 : Pc := .reg f14o5 [4, 7, 8, 10, 11, 12, 48] []
abbrev f14o6 : List (Nat × Pop) := [
  (0, ⟨(some 50), .load true 2 (.tmp 4), none⟩),
  (1, ⟨(some 51), .mv (.tmp 7), none⟩),
  (2, ⟨(some 52), .mv (.tmp 8), none⟩),
  (3, ⟨(some 53), .call 34 [(.tmp 50), (.tmp 51), (.tmp 52)], none⟩),
  (4, ⟨(some 49), .mv (.tmp 53), none⟩),
  (5, ⟨(some 54), .ext 0 (.tmp 49), none⟩),
  (6, ⟨(some 55), .ext 1 (.tmp 49), none⟩),
  (7, ⟨(some 13), .alloc 25 [(.t (.i .i64 0)), .nl], none⟩),
  (8, ⟨none, .store 2 (.tmp 13) (.tmp 54), none⟩),
  (9, ⟨(some 14), .mv (.tmp 55), none⟩)]
abbrev f14r6 : Pc := .reg f14o6 [4, 8, 10, 11, 12, 13, 14] []
abbrev f14o7 : List (Nat × Pop) := [
  (0, ⟨(some 56), .mv (.tmp 14), none⟩),
  (1, ⟨(some 57), .bin .neq (.tmp 56) (.c (.t (.i .i64 0))), none⟩),
  (2, ⟨(some 58), .mv (.tmp 57), none⟩),
  (3, ⟨(some 59), .load true 2 (.tmp 13), (some (58, false))⟩),
  (4, ⟨(some 60), .mv (.tmp 8), (some (58, false))⟩),
  (5, ⟨(some 61), .callq 21 [(.tmp 59), (.tmp 60)], (some (58, false))⟩),
  (6, ⟨(some 62), .load true 2 (.tmp 4), (some (58, false))⟩),
  (7, ⟨(some 63), .mv (.tmp 8), (some (58, false))⟩),
  (8, ⟨(some 64), .callq 21 [(.tmp 62), (.tmp 63)], (some (58, false))⟩),
  (9, ⟨(some 65), .bin .add (.tmp 64) (.c (.t (.i .i64 1))), (some (58, false))⟩),
  (10, ⟨(some 66), .bin .neq (.tmp 61) (.tmp 65), (some (58, false))⟩),
  (11, ⟨(some 67), .pick (.tmp 58) (.c (.t (.b true))) (.tmp 66), none⟩)]
abbrev f14r7 : Pc := .reg f14o7 [4, 10, 11, 12, 67] [13]
abbrev f14o8 : List (Nat × Pop) := [
  (0, ⟨(some 6), .mv (.c (.t (.b false))), none⟩)]
abbrev f14r8 : Pc := .reg f14o8 [6] [4]
abbrev f14o9 : List (Nat × Pop) := [
  (0, ⟨(some 68), .mv (.tmp 12), none⟩)]
abbrev f14r9 : Pc := .reg f14o9 [4, 10, 11, 68] []
abbrev f14o10 : List (Nat × Pop) := [
  (0, ⟨(some 70), .load true 2 (.tmp 4), none⟩),
  (1, ⟨(some 71), .mv (.tmp 10), none⟩),
  (2, ⟨(some 72), .mv (.tmp 11), none⟩),
  (3, ⟨(some 73), .call 35 [(.tmp 70), (.tmp 71), (.tmp 72)], none⟩),
  (4, ⟨(some 69), .mv (.tmp 73), none⟩),
  (5, ⟨(some 74), .ext 0 (.tmp 69), none⟩),
  (6, ⟨(some 75), .ext 1 (.tmp 69), none⟩),
  (7, ⟨(some 15), .alloc 25 [(.t (.i .i64 0)), .nl], none⟩),
  (8, ⟨none, .store 2 (.tmp 15) (.tmp 74), none⟩),
  (9, ⟨(some 16), .mv (.tmp 75), none⟩)]
abbrev f14r10 : Pc := .reg f14o10 [4, 11, 15, 16] []
abbrev f14o11 : List (Nat × Pop) := [
  (0, ⟨(some 76), .mv (.tmp 16), none⟩),
  (1, ⟨(some 77), .bin .neq (.tmp 76) (.c (.t (.i .i64 0))), none⟩),
  (2, ⟨(some 78), .mv (.tmp 77), none⟩),
  (3, ⟨(some 79), .load true 2 (.tmp 15), (some (78, false))⟩),
  (4, ⟨(some 80), .mv (.tmp 11), (some (78, false))⟩),
  (5, ⟨(some 81), .callq 21 [(.tmp 79), (.tmp 80)], (some (78, false))⟩),
  (6, ⟨(some 82), .load true 2 (.tmp 4), (some (78, false))⟩),
  (7, ⟨(some 83), .mv (.tmp 11), (some (78, false))⟩),
  (8, ⟨(some 84), .callq 21 [(.tmp 82), (.tmp 83)], (some (78, false))⟩),
  (9, ⟨(some 85), .bin .sub (.tmp 84) (.c (.t (.i .i64 1))), (some (78, false))⟩),
  (10, ⟨(some 86), .bin .neq (.tmp 81) (.tmp 85), (some (78, false))⟩),
  (11, ⟨(some 87), .pick (.tmp 78) (.c (.t (.b true))) (.tmp 86), none⟩)]
abbrev f14r11 : Pc := .reg f14o11 [87] [4, 15]
abbrev f14o12 : List (Nat × Pop) := [
  (0, ⟨(some 6), .mv (.c (.t (.b false))), none⟩)]
abbrev f14r12 : Pc := .reg f14o12 [6] []
abbrev f14o13 : List (Nat × Pop) := [
  (0, ⟨(some 88), .call 16 [], none⟩),
  (1, ⟨(some 6), .mv (.tmp 88), none⟩)]
abbrev f14r13 : Pc := .reg f14o13 [6] [4]
abbrev f14b : Pc := (.seq f14r0 (.seq (.seq f14r1 (.cond (.tmp 30) (.seq f14r2 .ret) .skip)) (.seq f14r3 (.seq f14r4 (.seq (.seq f14r5 (.cond (.tmp 48) (.seq f14r6 (.seq f14r7 (.cond (.tmp 67) (.seq f14r8 .ret) .skip))) .skip)) (.seq (.seq f14r9 (.cond (.tmp 68) (.seq f14r10 (.seq f14r11 (.cond (.tmp 87) (.seq f14r12 .ret) .skip))) .skip)) (.seq f14r13 .ret)))))))
abbrev f14 : Pfn := ⟨3, 89, [.tmp 6], f14b⟩
def f14K : Array (List Nat) := #[[0, 2, 4], [0, 2, 4, 30], [6], [0, 2, 4, 7, 8, 9], [4, 7, 8, 9, 10, 11, 12], [4, 7, 8, 10, 11, 12, 48], [4, 8, 10, 11, 12, 13, 14], [4, 10, 11, 12, 67], [6], [4, 10, 11, 68], [4, 11, 15, 16], [87], [6], [6]]
def f14H : Array (List Nat) := #[[], [], [4], [], [], [], [], [13], [4], [], [], [4, 15], [], [4]]
def f14A : Ann := ⟨fun r => f14K.getD r [], fun r => f14H.getD r [], fun r i => ([] : List (Nat × Nat)).contains (r, i)⟩
theorem f14C : compF Go.Proofs.Try.prog f14A 14 = some f14 := by kernel_rfl

/-- switchboard/switchboardref03.Small -/
abbrev f15o0 : List (Nat × Pop) := [
  (0, ⟨(some 2), .mv (.c (.t (.b false))), none⟩)]
abbrev f15r0 : Pc := .reg f15o0 [0] []
abbrev f15o1 : List (Nat × Pop) := [
  (0, ⟨(some 3), .mv (.c (.t (.i .i64 0))), none⟩)]
abbrev f15r1 : Pc := .reg f15o1 [0, 3] []
abbrev f15o2 : List (Nat × Pop) := [
  (0, ⟨(some 4), .mv (.tmp 3), none⟩),
  (1, ⟨(some 5), .mv (.tmp 0), none⟩),
  (2, ⟨(some 6), .lenL (.tmp 5), none⟩),
  (3, ⟨(some 7), .bin .lss (.tmp 4) (.tmp 6), none⟩),
  (4, ⟨(some 8), .mv (.tmp 7), none⟩),
  (5, ⟨(some 9), .mv (.tmp 3), (some (8, true))⟩),
  (6, ⟨(some 10), .bin .lss (.tmp 9) (.c (.t (.i .i64 30))), (some (8, true))⟩),
  (7, ⟨(some 11), .pick (.tmp 8) (.tmp 10) (.c (.t (.b false))), none⟩)]
abbrev f15r2 : Pc := .reg f15o2 [0, 3, 11] []
abbrev f15o4 : List (Nat × Pop) := [
  (0, ⟨(some 14), .mv (.tmp 0), none⟩),
  (1, ⟨(some 15), .mv (.tmp 3), none⟩),
  (2, ⟨(some 16), .ixS 1 (.tmp 14) (.tmp 15), none⟩),
  (3, ⟨(some 17), .load false 1 (.tmp 16), none⟩),
  (4, ⟨(some 18), .lenL (.tmp 17), none⟩),
  (5, ⟨(some 19), .bin .gtr (.tmp 18) (.c (.t (.i .i64 30))), none⟩)]
abbrev f15r4 : Pc := .reg f15o4 [0, 3, 19] []
abbrev f15o5 : List (Nat × Pop) := [
  (0, ⟨(some 2), .mv (.c (.t (.b false))), none⟩)]
abbrev f15r5 : Pc := .reg f15o5 [2] []
abbrev f15o3 : List (Nat × Pop) := [
  (0, ⟨(some 12), .mv (.tmp 3), none⟩),
  (1, ⟨(some 13), .bin .add (.tmp 12) (.c (.t (.i .i64 1))), none⟩),
  (2, ⟨(some 3), .mv (.tmp 13), none⟩)]
abbrev f15r3 : Pc := .reg f15o3 [0, 3] []
def f15l0 : Pc := (.seq (.seq f15r2 (.cond (.tmp 11) .skip (.exit 0))) (.seq (.block 1 (.seq f15r4 (.cond (.tmp 19) (.seq f15r5 .ret) .skip))) f15r3))
theorem f15l0e (C : Cfg) (s : St) : evL C f15l0 s = evL C (.seq (.seq f15r2 (.cond (.tmp 11) .skip (.exit 0))) (.seq (.block 1 (.seq f15r4 (.cond (.tmp 19) (.seq f15r5 .ret) .skip))) f15r3)) s := rfl
abbrev f15o6 : List (Nat × Pop) := [
  (0, ⟨(some 20), .mv (.tmp 0), none⟩),
  (1, ⟨(some 21), .lenL (.tmp 20), none⟩),
  (2, ⟨(some 22), .bin .leq (.tmp 21) (.c (.t (.i .i64 30))), none⟩),
  (3, ⟨(some 2), .mv (.tmp 22), none⟩)]
abbrev f15r6 : Pc := .reg f15o6 [2] []
abbrev f15b : Pc := (.seq f15r0 (.seq (.seq f15r1 (.block 0 (.loop f15l0))) (.seq f15r6 .ret)))
abbrev f15 : Pfn := ⟨1, 23, [.tmp 2], f15b⟩
def f15K : Array (List Nat) := #[[0], [0, 3], [0, 3, 11], [0, 3], [0, 3, 19], [2], [2]]
def f15H : Array (List Nat) := #[[], [], [], [], [], [], []]
def f15A : Ann := ⟨fun r => f15K.getD r [], fun r => f15H.getD r [], fun r i => ([] : List (Nat × Nat)).contains (r, i)⟩
theorem f15C : compF Go.Proofs.Try.prog f15A 15 = some f15 := by kernel_rfl

/-- switchboard/switchboardlaw21.awake -/
abbrev f16o0 : List (Nat × Pop) := [
  (0, ⟨(some 0), .mv (.c (.t (.b false))), none⟩)]
abbrev f16r0 : Pc := .reg f16o0 [] []
abbrev f16o1 : List (Nat × Pop) := [
  (0, ⟨(some 6), .bslT 1 [(.c (.t (.i .i64 9))), (.c (.t (.i .i64 1)))], none⟩),
  (1, ⟨(some 7), .bslT 1 [(.c (.t (.i .i64 1)))], none⟩),
  (2, ⟨(some 8), .bslT 1 [(.c (.t (.i .i64 1)))], none⟩),
  (3, ⟨(some 9), .bslT 1 [(.tmp 7), (.tmp 8)], none⟩),
  (4, ⟨(some 10), .build [(.t (.i .i64 0)), .nl] [(1, 1, (.tmp 9))], none⟩),
  (5, ⟨(some 11), .call 24 [(.tmp 6), (.tmp 10), (.c (.t (.i .i64 4)))], none⟩),
  (6, ⟨(some 5), .mv (.tmp 11), none⟩),
  (7, ⟨(some 12), .ext 0 (.tmp 5), none⟩),
  (8, ⟨(some 13), .ext 1 (.tmp 5), none⟩),
  (9, ⟨(some 14), .ext 2 (.tmp 5), none⟩),
  (10, ⟨(some 1), .mv (.tmp 12), none⟩),
  (11, ⟨(some 2), .mv (.tmp 13), none⟩),
  (12, ⟨(some 3), .mv (.tmp 14), none⟩)]
abbrev f16r1 : Pc := .reg f16o1 [1, 2, 3] []
abbrev f16o2 : List (Nat × Pop) := [
  (0, ⟨(some 15), .call 17 [(.c .nl), (.c (.t (.i .i64 2)))], none⟩),
  (1, ⟨(some 4), .mv (.tmp 15), none⟩)]
abbrev f16r2 : Pc := .reg f16o2 [1, 2, 3, 4] []
abbrev f16o3 : List (Nat × Pop) := [
  (0, ⟨(some 16), .mv (.tmp 1), none⟩),
  (1, ⟨(some 17), .bin .eql (.tmp 16) (.c (.t (.i .i64 0))), none⟩),
  (2, ⟨(some 18), .mv (.tmp 17), none⟩),
  (3, ⟨(some 19), .mv (.tmp 2), (some (18, true))⟩),
  (4, ⟨(some 20), .bin .eql (.tmp 19) (.c (.t (.i .i64 2))), (some (18, true))⟩),
  (5, ⟨(some 21), .pick (.tmp 18) (.tmp 20) (.c (.t (.b false))), none⟩),
  (6, ⟨(some 22), .mv (.tmp 21), none⟩),
  (7, ⟨(some 23), .mv (.tmp 3), (some (22, true))⟩),
  (8, ⟨(some 24), .pick (.tmp 22) (.tmp 23) (.c (.t (.b false))), none⟩),
  (9, ⟨(some 25), .mv (.tmp 24), none⟩),
  (10, ⟨(some 26), .mv (.tmp 4), (some (25, true))⟩),
  (11, ⟨(some 27), .lenL (.tmp 26), (some (25, true))⟩),
  (12, ⟨(some 28), .bin .eql (.tmp 27) (.c (.t (.i .i64 3))), (some (25, true))⟩),
  (13, ⟨(some 29), .pick (.tmp 25) (.tmp 28) (.c (.t (.b false))), none⟩),
  (14, ⟨(some 30), .mv (.tmp 29), none⟩),
  (15, ⟨(some 31), .mv (.tmp 4), (some (30, true))⟩),
  (16, ⟨(some 32), .ixS 1 (.tmp 31) (.c (.t (.i .i64 2))), (some (30, true))⟩),
  (17, ⟨(some 33), .load false 1 (.tmp 32), (some (30, true))⟩),
  (18, ⟨(some 34), .bin .eql (.tmp 33) (.c (.t (.i .i64 1))), (some (30, true))⟩),
  (19, ⟨(some 35), .pick (.tmp 30) (.tmp 34) (.c (.t (.b false))), none⟩),
  (20, ⟨(some 36), .mv (.tmp 35), none⟩),
  (21, ⟨(some 37), .mv (.tmp 4), (some (36, true))⟩),
  (22, ⟨(some 38), .call 20 [(.tmp 37), (.c (.t (.i .i64 1)))], (some (36, true))⟩),
  (23, ⟨(some 39), .bin .eql (.tmp 38) (.c (.t (.i .i64 0))), (some (36, true))⟩),
  (24, ⟨(some 40), .pick (.tmp 36) (.tmp 39) (.c (.t (.b false))), none⟩),
  (25, ⟨(some 0), .mv (.tmp 40), none⟩)]
abbrev f16r3 : Pc := .reg f16o3 [0] []
abbrev f16b : Pc := (.seq f16r0 (.seq f16r1 (.seq f16r2 (.seq f16r3 .ret))))
abbrev f16 : Pfn := ⟨0, 41, [.tmp 0], f16b⟩
def f16K : Array (List Nat) := #[[], [1, 2, 3], [1, 2, 3, 4], [0]]
def f16H : Array (List Nat) := #[[], [], [], []]
def f16A : Ann := ⟨fun r => f16K.getD r [], fun r => f16H.getD r [], fun r i => ([] : List (Nat × Nat)).contains (r, i)⟩
theorem f16C : compF Go.Proofs.Try.prog f16A 16 = some f16 := by kernel_rfl

/-- switchboard/load.Note -/
abbrev f17o0 : List (Nat × Pop) := [
  (0, ⟨(some 4), .nilv 3 1, none⟩)]
abbrev f17r0 : Pc := .reg f17o0 [0, 1] [4, 7, 27]
abbrev f17o1 : List (Nat × Pop) := [
  (0, ⟨(some 6), .mv (.tmp 0), none⟩),
  (1, ⟨(some 7), .call 36 [(.tmp 6)], none⟩),
  (2, ⟨(some 5), .mv (.tmp 7), none⟩)]
abbrev f17r1 : Pc := .reg f17o1 [0, 1, 5] []
abbrev f17o2 : List (Nat × Pop) := [
  (0, ⟨(some 8), .mv (.tmp 1), none⟩),
  (1, ⟨(some 9), .bin .lss (.tmp 8) (.c (.t (.i .i64 0))), none⟩),
  (2, ⟨(some 10), .mv (.tmp 9), none⟩),
  (3, ⟨(some 11), .mv (.tmp 1), (some (10, false))⟩),
  (4, ⟨(some 12), .bin .geq (.tmp 11) (.c (.t (.i .i64 8))), (some (10, false))⟩),
  (5, ⟨(some 13), .pick (.tmp 10) (.c (.t (.b true))) (.tmp 12), none⟩),
  (6, ⟨(some 14), .mv (.tmp 13), none⟩),
  (7, ⟨(some 15), .mv (.tmp 0), (some (14, false))⟩),
  (8, ⟨(some 16), .mv (.tmp 1), (some (14, false))⟩),
  (9, ⟨(some 17), .call 20 [(.tmp 15), (.tmp 16)], (some (14, false))⟩),
  (10, ⟨(some 18), .bin .geq (.tmp 17) (.c (.t (.i .i64 2147483647))), (some (14, false))⟩),
  (11, ⟨(some 19), .pick (.tmp 14) (.c (.t (.b true))) (.tmp 18), none⟩)]
abbrev f17r2 : Pc := .reg f17o2 [1, 5, 19] []
abbrev f17o3 : List (Nat × Pop) := [
  (0, ⟨(some 20), .mv (.tmp 5), none⟩),
  (1, ⟨(some 4), .mv (.tmp 20), none⟩)]
abbrev f17r3 : Pc := .reg f17o3 [4] []
abbrev f17o4 : List (Nat × Pop) := [
  (0, ⟨(some 21), .mv (.tmp 5), none⟩),
  (1, ⟨(some 22), .lenL (.tmp 21), none⟩),
  (2, ⟨(some 23), .mv (.tmp 1), none⟩),
  (3, ⟨(some 24), .bin .leq (.tmp 22) (.tmp 23), none⟩)]
abbrev f17r4 : Pc := .reg f17o4 [1, 5, 24] []
abbrev f17o5 : List (Nat × Pop) := [
  (0, ⟨(some 25), .mv (.tmp 5), none⟩),
  (1, ⟨(some 26), .bslT 1 [(.c (.t (.i .i64 0)))], none⟩),
  (2, ⟨(some 27), .app 3 1 8 (.tmp 25) (.tmp 26), none⟩),
  (3, ⟨(some 5), .mv (.tmp 27), none⟩)]
abbrev f17r5 : Pc := .reg f17o5 [1, 5] []
def f17l0 : Pc := (.seq (.seq f17r4 (.cond (.tmp 24) .skip (.exit 0))) (.block 1 f17r5))
theorem f17l0e (C : Cfg) (s : St) : evL C f17l0 s = evL C (.seq (.seq f17r4 (.cond (.tmp 24) .skip (.exit 0))) (.block 1 f17r5)) s := rfl
abbrev f17o6 : List (Nat × Pop) := [
  (0, ⟨(some 28), .mv (.tmp 5), none⟩),
  (1, ⟨(some 29), .mv (.tmp 1), none⟩),
  (2, ⟨(some 30), .ixS 1 (.tmp 28) (.tmp 29), none⟩),
  (3, ⟨(some 31), .load false 1 (.tmp 30), none⟩),
  (4, ⟨(some 32), .bin .add (.tmp 31) (.c (.t (.i .i64 1))), none⟩),
  (5, ⟨(some 33), .ixS 1 (.tmp 28) (.tmp 29), none⟩),
  (6, ⟨none, .store 1 (.tmp 33) (.tmp 32), none⟩)]
abbrev f17r6 : Pc := .reg f17o6 [5] []
abbrev f17o7 : List (Nat × Pop) := [
  (0, ⟨(some 34), .mv (.tmp 5), none⟩),
  (1, ⟨(some 4), .mv (.tmp 34), none⟩)]
abbrev f17r7 : Pc := .reg f17o7 [4] []
abbrev f17b : Pc := (.seq f17r0 (.seq f17r1 (.seq (.seq f17r2 (.cond (.tmp 19) (.seq f17r3 .ret) .skip)) (.seq (.block 0 (.loop f17l0)) (.seq f17r6 (.seq f17r7 .ret))))))
abbrev f17 : Pfn := ⟨2, 35, [.tmp 4], f17b⟩
def f17K : Array (List Nat) := #[[0, 1], [0, 1, 5], [1, 5, 19], [4], [1, 5, 24], [1, 5], [5], [4]]
def f17H : Array (List Nat) := #[[4, 7, 27], [], [], [], [], [], [], []]
def f17A : Ann := ⟨fun r => f17K.getD r [], fun r => f17H.getD r [], fun r i => ([] : List (Nat × Nat)).contains (r, i)⟩
theorem f17C : compF Go.Proofs.Try.prog f17A 17 = some f17 := by kernel_rfl

/-- switchboard/switchboardref21.Count -/
abbrev f18o0 : List (Nat × Pop) := [
  (0, ⟨(some 4), .mv (.c (.t (.i .i64 0))), none⟩)]
abbrev f18r0 : Pc := .reg f18o0 [0, 1] []
abbrev f18o1 : List (Nat × Pop) := [
  (0, ⟨(some 5), .mv (.c (.t (.i .i64 0))), none⟩)]
abbrev f18r1 : Pc := .reg f18o1 [0, 1, 5] []
abbrev f18o2 : List (Nat × Pop) := [
  (0, ⟨(some 6), .mv (.tmp 5), none⟩),
  (1, ⟨(some 7), .mv (.tmp 0), none⟩),
  (2, ⟨(some 8), .lenL (.tmp 7), none⟩),
  (3, ⟨(some 9), .bin .lss (.tmp 6) (.tmp 8), none⟩)]
abbrev f18r2 : Pc := .reg f18o2 [0, 1, 5, 9] []
abbrev f18o4 : List (Nat × Pop) := [
  (0, ⟨(some 12), .mv (.tmp 5), none⟩),
  (1, ⟨(some 13), .mv (.tmp 1), none⟩),
  (2, ⟨(some 14), .bin .eql (.tmp 12) (.tmp 13), none⟩)]
abbrev f18r4 : Pc := .reg f18o4 [0, 1, 5, 14] []
abbrev f18o5 : List (Nat × Pop) := [
  (0, ⟨(some 15), .mv (.tmp 0), none⟩),
  (1, ⟨(some 16), .mv (.tmp 5), none⟩),
  (2, ⟨(some 17), .ixS 1 (.tmp 15) (.tmp 16), none⟩),
  (3, ⟨(some 18), .load false 1 (.tmp 17), none⟩),
  (4, ⟨(some 4), .mv (.tmp 18), none⟩)]
abbrev f18r5 : Pc := .reg f18o5 [4] []
abbrev f18o3 : List (Nat × Pop) := [
  (0, ⟨(some 10), .mv (.tmp 5), none⟩),
  (1, ⟨(some 11), .bin .add (.tmp 10) (.c (.t (.i .i64 1))), none⟩),
  (2, ⟨(some 5), .mv (.tmp 11), none⟩)]
abbrev f18r3 : Pc := .reg f18o3 [0, 1, 5] []
def f18l0 : Pc := (.seq (.seq f18r2 (.cond (.tmp 9) .skip (.exit 0))) (.seq (.block 1 (.seq f18r4 (.cond (.tmp 14) (.seq f18r5 .ret) .skip))) f18r3))
theorem f18l0e (C : Cfg) (s : St) : evL C f18l0 s = evL C (.seq (.seq f18r2 (.cond (.tmp 9) .skip (.exit 0))) (.seq (.block 1 (.seq f18r4 (.cond (.tmp 14) (.seq f18r5 .ret) .skip))) f18r3)) s := rfl
abbrev f18o6 : List (Nat × Pop) := [
  (0, ⟨(some 4), .mv (.c (.t (.i .i64 0))), none⟩)]
abbrev f18r6 : Pc := .reg f18o6 [4] []
abbrev f18b : Pc := (.seq f18r0 (.seq (.seq f18r1 (.block 0 (.loop f18l0))) (.seq f18r6 .ret)))
abbrev f18 : Pfn := ⟨2, 19, [.tmp 4], f18b⟩
def f18K : Array (List Nat) := #[[0, 1], [0, 1, 5], [0, 1, 5, 9], [0, 1, 5], [0, 1, 5, 14], [4], [4]]
def f18H : Array (List Nat) := #[[], [], [], [], [], [], []]
def f18A : Ann := ⟨fun r => f18K.getD r [], fun r => f18H.getD r [], fun r i => ([] : List (Nat × Nat)).contains (r, i)⟩
theorem f18C : compF Go.Proofs.Try.prog f18A 18 = some f18 := by kernel_rfl

/-- switchboard/switchboardref02.Same -/
abbrev f19o0 : List (Nat × Pop) := [
  (0, ⟨(some 4), .mv (.c (.t (.b false))), none⟩)]
abbrev f19r0 : Pc := .reg f19o0 [0, 1] []
abbrev f19o1 : List (Nat × Pop) := [
  (0, ⟨(some 6), .mv (.tmp 0), none⟩),
  (1, ⟨(some 7), .lenL (.tmp 6), none⟩),
  (2, ⟨(some 8), .mv (.tmp 1), none⟩),
  (3, ⟨(some 9), .lenL (.tmp 8), none⟩),
  (4, ⟨(some 10), .bin .neq (.tmp 7) (.tmp 9), none⟩)]
abbrev f19r1 : Pc := .reg f19o1 [0, 1, 10] []
abbrev f19o2 : List (Nat × Pop) := [
  (0, ⟨(some 4), .mv (.c (.t (.b false))), none⟩)]
abbrev f19r2 : Pc := .reg f19o2 [4] []
abbrev f19o3 : List (Nat × Pop) := [
  (0, ⟨(some 5), .mv (.c (.t (.i .i64 0))), none⟩)]
abbrev f19r3 : Pc := .reg f19o3 [0, 1, 5] []
abbrev f19o4 : List (Nat × Pop) := [
  (0, ⟨(some 11), .mv (.tmp 5), none⟩),
  (1, ⟨(some 12), .mv (.tmp 0), none⟩),
  (2, ⟨(some 13), .lenL (.tmp 12), none⟩),
  (3, ⟨(some 14), .bin .lss (.tmp 11) (.tmp 13), none⟩)]
abbrev f19r4 : Pc := .reg f19o4 [0, 1, 5, 14] []
abbrev f19o6 : List (Nat × Pop) := [
  (0, ⟨(some 17), .mv (.tmp 0), none⟩),
  (1, ⟨(some 18), .mv (.tmp 5), none⟩),
  (2, ⟨(some 19), .ixS 1 (.tmp 17) (.tmp 18), none⟩),
  (3, ⟨(some 20), .load false 1 (.tmp 19), none⟩),
  (4, ⟨(some 21), .mv (.tmp 1), none⟩),
  (5, ⟨(some 22), .mv (.tmp 5), none⟩),
  (6, ⟨(some 23), .ixS 1 (.tmp 21) (.tmp 22), none⟩),
  (7, ⟨(some 24), .load false 1 (.tmp 23), none⟩),
  (8, ⟨(some 25), .bin .neq (.tmp 20) (.tmp 24), none⟩)]
abbrev f19r6 : Pc := .reg f19o6 [0, 1, 5, 25] []
abbrev f19o7 : List (Nat × Pop) := [
  (0, ⟨(some 4), .mv (.c (.t (.b false))), none⟩)]
abbrev f19r7 : Pc := .reg f19o7 [4] []
abbrev f19o5 : List (Nat × Pop) := [
  (0, ⟨(some 15), .mv (.tmp 5), none⟩),
  (1, ⟨(some 16), .bin .add (.tmp 15) (.c (.t (.i .i64 1))), none⟩),
  (2, ⟨(some 5), .mv (.tmp 16), none⟩)]
abbrev f19r5 : Pc := .reg f19o5 [0, 1, 5] []
def f19l0 : Pc := (.seq (.seq f19r4 (.cond (.tmp 14) .skip (.exit 0))) (.seq (.block 1 (.seq f19r6 (.cond (.tmp 25) (.seq f19r7 .ret) .skip))) f19r5))
theorem f19l0e (C : Cfg) (s : St) : evL C f19l0 s = evL C (.seq (.seq f19r4 (.cond (.tmp 14) .skip (.exit 0))) (.seq (.block 1 (.seq f19r6 (.cond (.tmp 25) (.seq f19r7 .ret) .skip))) f19r5)) s := rfl
abbrev f19o8 : List (Nat × Pop) := [
  (0, ⟨(some 4), .mv (.c (.t (.b true))), none⟩)]
abbrev f19r8 : Pc := .reg f19o8 [4] []
abbrev f19b : Pc := (.seq f19r0 (.seq (.seq f19r1 (.cond (.tmp 10) (.seq f19r2 .ret) .skip)) (.seq (.seq f19r3 (.block 0 (.loop f19l0))) (.seq f19r8 .ret))))
abbrev f19 : Pfn := ⟨2, 26, [.tmp 4], f19b⟩
def f19K : Array (List Nat) := #[[0, 1], [0, 1, 10], [4], [0, 1, 5], [0, 1, 5, 14], [0, 1, 5], [0, 1, 5, 25], [4], [4]]
def f19H : Array (List Nat) := #[[], [], [], [], [], [], [], [], []]
def f19A : Ann := ⟨fun r => f19K.getD r [], fun r => f19H.getD r [], fun r i => ([] : List (Nat × Nat)).contains (r, i)⟩
theorem f19C : compF Go.Proofs.Try.prog f19A 19 = some f19 := by kernel_rfl

/-- switchboard/load.Count -/
abbrev f20o0 : List (Nat × Pop) := [
  (0, ⟨(some 4), .mv (.c (.t (.i .i64 0))), none⟩)]
abbrev f20r0 : Pc := .reg f20o0 [0, 1] []
abbrev f20o1 : List (Nat × Pop) := [
  (0, ⟨(some 5), .mv (.tmp 1), none⟩),
  (1, ⟨(some 6), .bin .lss (.tmp 5) (.c (.t (.i .i64 0))), none⟩),
  (2, ⟨(some 7), .mv (.tmp 6), none⟩),
  (3, ⟨(some 8), .mv (.tmp 1), (some (7, false))⟩),
  (4, ⟨(some 9), .mv (.tmp 0), (some (7, false))⟩),
  (5, ⟨(some 10), .lenL (.tmp 9), (some (7, false))⟩),
  (6, ⟨(some 11), .bin .geq (.tmp 8) (.tmp 10), (some (7, false))⟩),
  (7, ⟨(some 12), .pick (.tmp 7) (.c (.t (.b true))) (.tmp 11), none⟩)]
abbrev f20r1 : Pc := .reg f20o1 [0, 1, 12] []
abbrev f20o2 : List (Nat × Pop) := [
  (0, ⟨(some 4), .mv (.c (.t (.i .i64 0))), none⟩)]
abbrev f20r2 : Pc := .reg f20o2 [4] []
abbrev f20o3 : List (Nat × Pop) := [
  (0, ⟨(some 13), .mv (.tmp 0), none⟩),
  (1, ⟨(some 14), .mv (.tmp 1), none⟩),
  (2, ⟨(some 15), .ixS 1 (.tmp 13) (.tmp 14), none⟩),
  (3, ⟨(some 16), .load false 1 (.tmp 15), none⟩),
  (4, ⟨(some 4), .mv (.tmp 16), none⟩)]
abbrev f20r3 : Pc := .reg f20o3 [4] []
abbrev f20b : Pc := (.seq f20r0 (.seq (.seq f20r1 (.cond (.tmp 12) (.seq f20r2 .ret) .skip)) (.seq f20r3 .ret)))
abbrev f20 : Pfn := ⟨2, 17, [.tmp 4], f20b⟩
def f20K : Array (List Nat) := #[[0, 1], [0, 1, 12], [4], [4]]
def f20H : Array (List Nat) := #[[], [], [], []]
def f20A : Ann := ⟨fun r => f20K.getD r [], fun r => f20H.getD r [], fun r i => ([] : List (Nat × Nat)).contains (r, i)⟩
theorem f20C : compF Go.Proofs.Try.prog f20A 20 = some f20 := by kernel_rfl

/-- switchboard/load.Weight -/
abbrev f21o0 : List (Nat × Pop) := [
  (0, ⟨(some 2), .box 25 2 (.tmp 0), none⟩),
  (1, ⟨(some 4), .mv (.c (.t (.i .i64 0))), none⟩)]
abbrev f21r0 : Pc := .reg f21o0 [1, 2] []
abbrev f21o1 : List (Nat × Pop) := [
  (0, ⟨(some 5), .mv (.c (.t (.i .i64 0))), none⟩)]
abbrev f21r1 : Pc := .reg f21o1 [1, 2, 5] []
abbrev f21o2 : List (Nat × Pop) := [
  (0, ⟨(some 8), .fad 1 (.tmp 2), none⟩),
  (1, ⟨(some 9), .load false 1 (.tmp 8), none⟩),
  (2, ⟨(some 10), .lenL (.tmp 9), none⟩),
  (3, ⟨(some 11), .mv (.c (.t (.i .i64 0))), none⟩)]
abbrev f21r2 : Pc := .reg f21o2 [1, 5, 9, 10, 11] [2]
abbrev f21o3 : List (Nat × Pop) := [
  (0, ⟨(some 12), .bin .lss (.tmp 11) (.tmp 10), none⟩)]
abbrev f21r3 : Pc := .reg f21o3 [1, 5, 9, 10, 11, 12] []
abbrev f21o4 : List (Nat × Pop) := [
  (0, ⟨(some 13), .ixS 1 (.tmp 9) (.tmp 11), none⟩),
  (1, ⟨(some 14), .load false 1 (.tmp 13), none⟩),
  (2, ⟨(some 7), .mv (.tmp 14), none⟩)]
abbrev f21r4 : Pc := .reg f21o4 [1, 5, 7, 9, 10, 11] []
abbrev f21o5 : List (Nat × Pop) := [
  (0, ⟨(some 15), .mv (.tmp 1), none⟩),
  (1, ⟨(some 16), .bin .geq (.tmp 15) (.c (.t (.i .i64 1))), none⟩),
  (2, ⟨(some 17), .mv (.tmp 16), none⟩),
  (3, ⟨(some 18), .mv (.tmp 1), (some (17, true))⟩),
  (4, ⟨(some 19), .bin .leq (.tmp 18) (.c (.t (.i .i64 4))), (some (17, true))⟩),
  (5, ⟨(some 20), .pick (.tmp 17) (.tmp 19) (.c (.t (.b false))), none⟩),
  (6, ⟨(some 21), .mv (.tmp 20), none⟩),
  (7, ⟨(some 22), .mv (.tmp 7), (some (21, true))⟩),
  (8, ⟨(some 23), .mv (.tmp 1), (some (21, true))⟩),
  (9, ⟨(some 24), .call 37 [(.tmp 22), (.tmp 23)], (some (21, true))⟩),
  (10, ⟨(some 25), .pick (.tmp 21) (.tmp 24) (.c (.t (.b false))), none⟩)]
abbrev f21r5 : Pc := .reg f21o5 [1, 5, 9, 10, 11, 25] []
abbrev f21o6 : List (Nat × Pop) := [
  (0, ⟨(some 26), .mv (.tmp 5), none⟩),
  (1, ⟨(some 27), .bin .add (.tmp 26) (.c (.t (.i .i64 1))), none⟩),
  (2, ⟨(some 5), .mv (.tmp 27), none⟩)]
abbrev f21r6 : Pc := .reg f21o6 [1, 5, 9, 10, 11] []
abbrev f21o7 : List (Nat × Pop) := [
  (0, ⟨(some 28), .bin .add (.tmp 11) (.c (.t (.i .i64 1))), none⟩),
  (1, ⟨(some 11), .mv (.tmp 28), none⟩)]
abbrev f21r7 : Pc := .reg f21o7 [1, 5, 9, 10, 11] []
def f21l0 : Pc := (.seq f21r3 (.seq (.cond (.tmp 12) .skip (.exit 0)) (.seq (.block 1 (.seq f21r4 (.seq f21r5 (.cond (.tmp 25) f21r6 .skip)))) f21r7)))
theorem f21l0e (C : Cfg) (s : St) : evL C f21l0 s = evL C (.seq f21r3 (.seq (.cond (.tmp 12) .skip (.exit 0)) (.seq (.block 1 (.seq f21r4 (.seq f21r5 (.cond (.tmp 25) f21r6 .skip)))) f21r7))) s := rfl
abbrev f21o8 : List (Nat × Pop) := [
  (0, ⟨(some 29), .mv (.tmp 5), none⟩),
  (1, ⟨(some 4), .mv (.tmp 29), none⟩)]
abbrev f21r8 : Pc := .reg f21o8 [4] []
abbrev f21b : Pc := (.seq f21r0 (.seq f21r1 (.seq (.seq f21r2 (.block 0 (.loop f21l0))) (.seq f21r8 .ret))))
abbrev f21 : Pfn := ⟨2, 30, [.tmp 4], f21b⟩
def f21K : Array (List Nat) := #[[1, 2], [1, 2, 5], [1, 5, 9, 10, 11], [1, 5, 9, 10, 11, 12], [1, 5, 7, 9, 10, 11], [1, 5, 9, 10, 11, 25], [1, 5, 9, 10, 11], [1, 5, 9, 10, 11], [4]]
def f21H : Array (List Nat) := #[[], [], [2], [], [], [], [], [], []]
def f21A : Ann := ⟨fun r => f21K.getD r [], fun r => f21H.getD r [], fun r i => ([] : List (Nat × Nat)).contains (r, i)⟩
theorem f21C : compF Go.Proofs.Try.prog f21A 21 = some f21 := by kernel_rfl

/-- switchboard/switchboardref21.Weight -/
abbrev f22o0 : List (Nat × Pop) := [
  (0, ⟨(some 2), .box 33 2 (.tmp 0), none⟩),
  (1, ⟨(some 4), .mv (.c (.t (.i .i64 0))), none⟩)]
abbrev f22r0 : Pc := .reg f22o0 [1, 2] []
abbrev f22o1 : List (Nat × Pop) := [
  (0, ⟨(some 5), .mv (.c (.t (.i .i64 0))), none⟩)]
abbrev f22r1 : Pc := .reg f22o1 [1, 2, 5] []
abbrev f22o2 : List (Nat × Pop) := [
  (0, ⟨(some 6), .mv (.c (.t (.i .i64 0))), none⟩)]
abbrev f22r2 : Pc := .reg f22o2 [1, 2, 5, 6] []
abbrev f22o3 : List (Nat × Pop) := [
  (0, ⟨(some 7), .mv (.tmp 6), none⟩),
  (1, ⟨(some 8), .fad 1 (.tmp 2), none⟩),
  (2, ⟨(some 9), .load false 1 (.tmp 8), none⟩),
  (3, ⟨(some 10), .lenL (.tmp 9), none⟩),
  (4, ⟨(some 11), .bin .lss (.tmp 7) (.tmp 10), none⟩)]
abbrev f22r3 : Pc := .reg f22o3 [1, 2, 5, 6, 11] []
abbrev f22o5 : List (Nat × Pop) := [
  (0, ⟨(some 14), .mv (.tmp 1), none⟩),
  (1, ⟨(some 15), .bin .gtr (.tmp 14) (.c (.t (.i .i64 0))), none⟩),
  (2, ⟨(some 16), .mv (.tmp 15), none⟩),
  (3, ⟨(some 17), .mv (.tmp 1), (some (16, true))⟩),
  (4, ⟨(some 18), .bin .lss (.tmp 17) (.c (.t (.i .i64 5))), (some (16, true))⟩),
  (5, ⟨(some 19), .pick (.tmp 16) (.tmp 18) (.c (.t (.b false))), none⟩),
  (6, ⟨(some 20), .mv (.tmp 19), none⟩),
  (7, ⟨(some 21), .fad 1 (.tmp 2), (some (20, true))⟩),
  (8, ⟨(some 22), .load false 1 (.tmp 21), (some (20, true))⟩),
  (9, ⟨(some 23), .mv (.tmp 6), (some (20, true))⟩),
  (10, ⟨(some 24), .ixS 1 (.tmp 22) (.tmp 23), (some (20, true))⟩),
  (11, ⟨(some 25), .load false 1 (.tmp 24), (some (20, true))⟩),
  (12, ⟨(some 26), .mv (.tmp 1), (some (20, true))⟩),
  (13, ⟨(some 27), .call 38 [(.tmp 25), (.tmp 26)], (some (20, true))⟩),
  (14, ⟨(some 28), .pick (.tmp 20) (.tmp 27) (.c (.t (.b false))), none⟩)]
abbrev f22r5 : Pc := .reg f22o5 [1, 2, 5, 6, 28] []
abbrev f22o6 : List (Nat × Pop) := [
  (0, ⟨(some 29), .mv (.tmp 5), none⟩),
  (1, ⟨(some 30), .bin .add (.tmp 29) (.c (.t (.i .i64 1))), none⟩),
  (2, ⟨(some 5), .mv (.tmp 30), none⟩)]
abbrev f22r6 : Pc := .reg f22o6 [1, 2, 5, 6] []
abbrev f22o4 : List (Nat × Pop) := [
  (0, ⟨(some 12), .mv (.tmp 6), none⟩),
  (1, ⟨(some 13), .bin .add (.tmp 12) (.c (.t (.i .i64 1))), none⟩),
  (2, ⟨(some 6), .mv (.tmp 13), none⟩)]
abbrev f22r4 : Pc := .reg f22o4 [1, 2, 5, 6] []
def f22l0 : Pc := (.seq (.seq f22r3 (.cond (.tmp 11) .skip (.exit 0))) (.seq (.block 1 (.seq f22r5 (.cond (.tmp 28) f22r6 .skip))) f22r4))
theorem f22l0e (C : Cfg) (s : St) : evL C f22l0 s = evL C (.seq (.seq f22r3 (.cond (.tmp 11) .skip (.exit 0))) (.seq (.block 1 (.seq f22r5 (.cond (.tmp 28) f22r6 .skip))) f22r4)) s := rfl
abbrev f22o7 : List (Nat × Pop) := [
  (0, ⟨(some 31), .mv (.tmp 5), none⟩),
  (1, ⟨(some 4), .mv (.tmp 31), none⟩)]
abbrev f22r7 : Pc := .reg f22o7 [4] [2]
abbrev f22b : Pc := (.seq f22r0 (.seq f22r1 (.seq (.seq f22r2 (.block 0 (.loop f22l0))) (.seq f22r7 .ret))))
abbrev f22 : Pfn := ⟨2, 32, [.tmp 4], f22b⟩
def f22K : Array (List Nat) := #[[1, 2], [1, 2, 5], [1, 2, 5, 6], [1, 2, 5, 6, 11], [1, 2, 5, 6], [1, 2, 5, 6, 28], [1, 2, 5, 6], [4]]
def f22H : Array (List Nat) := #[[], [], [], [], [], [], [], [2]]
def f22A : Ann := ⟨fun r => f22K.getD r [], fun r => f22H.getD r [], fun r i => ([] : List (Nat × Nat)).contains (r, i)⟩
theorem f22C : compF Go.Proofs.Try.prog f22A 22 = some f22 := by kernel_rfl

/-- switchboard/switchboardref17.Right -/
abbrev f23o0 : List (Nat × Pop) := [
  (0, ⟨(some 1), .box 33 2 (.tmp 0), none⟩),
  (1, ⟨(some 2), .mv (.c (.t (.b false))), none⟩)]
abbrev f23r0 : Pc := .reg f23o0 [1] []
abbrev f23o1 : List (Nat × Pop) := [
  (0, ⟨(some 6), .fad 0 (.tmp 1), none⟩),
  (1, ⟨(some 7), .load false 1 (.tmp 6), none⟩),
  (2, ⟨(some 8), .bin .lss (.tmp 7) (.c (.t (.i .i64 0))), none⟩),
  (3, ⟨(some 9), .mv (.tmp 8), none⟩),
  (4, ⟨(some 10), .fad 0 (.tmp 1), (some (9, false))⟩),
  (5, ⟨(some 11), .load false 1 (.tmp 10), (some (9, false))⟩),
  (6, ⟨(some 12), .bin .gtr (.tmp 11) (.c (.t (.i .i64 2147483647))), (some (9, false))⟩),
  (7, ⟨(some 13), .pick (.tmp 9) (.c (.t (.b true))) (.tmp 12), none⟩),
  (8, ⟨(some 14), .mv (.tmp 13), none⟩),
  (9, ⟨(some 15), .fad 1 (.tmp 1), (some (14, false))⟩),
  (10, ⟨(some 16), .load false 1 (.tmp 15), (some (14, false))⟩),
  (11, ⟨(some 17), .lenL (.tmp 16), (some (14, false))⟩),
  (12, ⟨(some 18), .bin .gtr (.tmp 17) (.c (.t (.i .i64 8))), (some (14, false))⟩),
  (13, ⟨(some 19), .pick (.tmp 14) (.c (.t (.b true))) (.tmp 18), none⟩)]
abbrev f23r1 : Pc := .reg f23o1 [1, 19] []
abbrev f23o2 : List (Nat × Pop) := [
  (0, ⟨(some 2), .mv (.c (.t (.b false))), none⟩)]
abbrev f23r2 : Pc := .reg f23o2 [2] [1]
abbrev f23o3 : List (Nat × Pop) := [
  (0, ⟨(some 3), .mv (.c (.t (.i .i64 0))), none⟩)]
abbrev f23r3 : Pc := .reg f23o3 [1, 3] []
abbrev f23o4 : List (Nat × Pop) := [
  (0, ⟨(some 20), .mv (.tmp 3), none⟩),
  (1, ⟨(some 21), .fad 1 (.tmp 1), none⟩),
  (2, ⟨(some 22), .load false 1 (.tmp 21), none⟩),
  (3, ⟨(some 23), .lenL (.tmp 22), none⟩),
  (4, ⟨(some 24), .bin .lss (.tmp 20) (.tmp 23), none⟩)]
abbrev f23r4 : Pc := .reg f23o4 [1, 3, 24] []
abbrev f23o6 : List (Nat × Pop) := [
  (0, ⟨(some 27), .fad 1 (.tmp 1), none⟩),
  (1, ⟨(some 28), .load false 1 (.tmp 27), none⟩),
  (2, ⟨(some 29), .mv (.tmp 3), none⟩),
  (3, ⟨(some 30), .ixS 1 (.tmp 28) (.tmp 29), none⟩),
  (4, ⟨(some 31), .load false 1 (.tmp 30), none⟩),
  (5, ⟨(some 4), .mv (.tmp 31), none⟩)]
abbrev f23r6 : Pc := .reg f23o6 [1, 3, 4] []
abbrev f23o7 : List (Nat × Pop) := [
  (0, ⟨(some 32), .mv (.tmp 4), none⟩),
  (1, ⟨(some 33), .lenL (.tmp 32), none⟩),
  (2, ⟨(some 34), .bin .eql (.tmp 33) (.c (.t (.i .i64 0))), none⟩)]
abbrev f23r7 : Pc := .reg f23o7 [1, 3, 4, 34] []
abbrev f23o8 : List (Nat × Pop) := [
  (0, ⟨(some 2), .mv (.c (.t (.b false))), none⟩)]
abbrev f23r8 : Pc := .reg f23o8 [2] [1]
abbrev f23o9 : List (Nat × Pop) := [
  (0, ⟨(some 5), .mv (.c (.t (.i .i64 0))), none⟩)]
abbrev f23r9 : Pc := .reg f23o9 [1, 3, 4, 5] []
abbrev f23o10 : List (Nat × Pop) := [
  (0, ⟨(some 35), .mv (.tmp 5), none⟩),
  (1, ⟨(some 36), .mv (.tmp 4), none⟩),
  (2, ⟨(some 37), .lenL (.tmp 36), none⟩),
  (3, ⟨(some 38), .bin .lss (.tmp 35) (.tmp 37), none⟩)]
abbrev f23r10 : Pc := .reg f23o10 [1, 3, 4, 5, 38] []
abbrev f23o12 : List (Nat × Pop) := [
  (0, ⟨(some 41), .mv (.tmp 4), none⟩),
  (1, ⟨(some 42), .mv (.tmp 5), none⟩),
  (2, ⟨(some 43), .ixS 1 (.tmp 41) (.tmp 42), none⟩),
  (3, ⟨(some 44), .load false 1 (.tmp 43), none⟩),
  (4, ⟨(some 45), .bin .lss (.tmp 44) (.c (.t (.i .i64 1))), none⟩),
  (5, ⟨(some 46), .mv (.tmp 45), none⟩),
  (6, ⟨(some 47), .mv (.tmp 4), (some (46, false))⟩),
  (7, ⟨(some 48), .mv (.tmp 5), (some (46, false))⟩),
  (8, ⟨(some 49), .ixS 1 (.tmp 47) (.tmp 48), (some (46, false))⟩),
  (9, ⟨(some 50), .load false 1 (.tmp 49), (some (46, false))⟩),
  (10, ⟨(some 51), .bin .gtr (.tmp 50) (.c (.t (.i .i64 4))), (some (46, false))⟩),
  (11, ⟨(some 52), .pick (.tmp 46) (.c (.t (.b true))) (.tmp 51), none⟩),
  (12, ⟨(some 53), .mv (.tmp 52), none⟩),
  (13, ⟨(some 54), .mv (.tmp 5), (some (53, false))⟩),
  (14, ⟨(some 55), .bin .gtr (.tmp 54) (.c (.t (.i .i64 0))), (some (53, false))⟩),
  (15, ⟨(some 56), .mv (.tmp 55), (some (53, false))⟩),
  (16, ⟨(some 57), .mv (.tmp 4), (some (56, true))⟩),
  (17, ⟨(some 58), .mv (.tmp 5), (some (56, true))⟩),
  (18, ⟨(some 59), .ixS 1 (.tmp 57) (.tmp 58), (some (56, true))⟩),
  (19, ⟨(some 60), .load false 1 (.tmp 59), (some (56, true))⟩),
  (20, ⟨(some 61), .mv (.tmp 4), (some (56, true))⟩),
  (21, ⟨(some 62), .mv (.tmp 5), (some (56, true))⟩),
  (22, ⟨(some 63), .bin .sub (.tmp 62) (.c (.t (.i .i64 1))), (some (56, true))⟩),
  (23, ⟨(some 64), .ixS 1 (.tmp 61) (.tmp 63), (some (56, true))⟩),
  (24, ⟨(some 65), .load false 1 (.tmp 64), (some (56, true))⟩),
  (25, ⟨(some 66), .bin .leq (.tmp 60) (.tmp 65), (some (56, true))⟩),
  (26, ⟨(some 67), .pick (.tmp 56) (.tmp 66) (.c (.t (.b false))), (some (53, false))⟩),
  (27, ⟨(some 68), .pick (.tmp 53) (.c (.t (.b true))) (.tmp 67), none⟩)]
abbrev f23r12 : Pc := .reg f23o12 [1, 3, 4, 5, 68] []
abbrev f23o13 : List (Nat × Pop) := [
  (0, ⟨(some 2), .mv (.c (.t (.b false))), none⟩)]
abbrev f23r13 : Pc := .reg f23o13 [2] [1]
abbrev f23o11 : List (Nat × Pop) := [
  (0, ⟨(some 39), .mv (.tmp 5), none⟩),
  (1, ⟨(some 40), .bin .add (.tmp 39) (.c (.t (.i .i64 1))), none⟩),
  (2, ⟨(some 5), .mv (.tmp 40), none⟩)]
abbrev f23r11 : Pc := .reg f23o11 [1, 3, 4, 5] []
def f23l0 : Pc := (.seq (.seq f23r10 (.cond (.tmp 38) .skip (.exit 2))) (.seq (.block 3 (.seq f23r12 (.cond (.tmp 68) (.seq f23r13 .ret) .skip))) f23r11))
theorem f23l0e (C : Cfg) (s : St) : evL C f23l0 s = evL C (.seq (.seq f23r10 (.cond (.tmp 38) .skip (.exit 2))) (.seq (.block 3 (.seq f23r12 (.cond (.tmp 68) (.seq f23r13 .ret) .skip))) f23r11)) s := rfl
abbrev f23o5 : List (Nat × Pop) := [
  (0, ⟨(some 25), .mv (.tmp 3), none⟩),
  (1, ⟨(some 26), .bin .add (.tmp 25) (.c (.t (.i .i64 1))), none⟩),
  (2, ⟨(some 3), .mv (.tmp 26), none⟩)]
abbrev f23r5 : Pc := .reg f23o5 [1, 3] []
def f23l1 : Pc := (.seq (.seq f23r4 (.cond (.tmp 24) .skip (.exit 0))) (.seq (.block 1 (.seq f23r6 (.seq (.seq f23r7 (.cond (.tmp 34) (.seq f23r8 .ret) .skip)) (.seq f23r9 (.block 2 (.loop f23l0)))))) f23r5))
theorem f23l1e (C : Cfg) (s : St) : evL C f23l1 s = evL C (.seq (.seq f23r4 (.cond (.tmp 24) .skip (.exit 0))) (.seq (.block 1 (.seq f23r6 (.seq (.seq f23r7 (.cond (.tmp 34) (.seq f23r8 .ret) .skip)) (.seq f23r9 (.block 2 (.loop f23l0)))))) f23r5)) s := rfl
abbrev f23o14 : List (Nat × Pop) := [
  (0, ⟨(some 2), .mv (.c (.t (.b true))), none⟩)]
abbrev f23r14 : Pc := .reg f23o14 [2] [1]
abbrev f23b : Pc := (.seq f23r0 (.seq (.seq f23r1 (.cond (.tmp 19) (.seq f23r2 .ret) .skip)) (.seq (.seq f23r3 (.block 0 (.loop f23l1))) (.seq f23r14 .ret))))
abbrev f23 : Pfn := ⟨1, 69, [.tmp 2], f23b⟩
def f23K : Array (List Nat) := #[[1], [1, 19], [2], [1, 3], [1, 3, 24], [1, 3], [1, 3, 4], [1, 3, 4, 34], [2], [1, 3, 4, 5], [1, 3, 4, 5, 38], [1, 3, 4, 5], [1, 3, 4, 5, 68], [2], [2]]
def f23H : Array (List Nat) := #[[], [], [1], [], [], [], [], [], [1], [], [], [], [], [1], [1]]
def f23A : Ann := ⟨fun r => f23K.getD r [], fun r => f23H.getD r [], fun r i => ([] : List (Nat × Nat)).contains (r, i)⟩
theorem f23C : compF Go.Proofs.Try.prog f23A 23 = some f23 := by kernel_rfl

/-- switchboard/load.Hot -/
abbrev f24o0 : List (Nat × Pop) := [
  (0, ⟨(some 4), .box 25 2 (.tmp 1), none⟩),
  (1, ⟨(some 6), .mv (.c (.t (.i .i64 0))), none⟩),
  (2, ⟨(some 7), .mv (.c (.t (.i .i64 0))), none⟩),
  (3, ⟨(some 8), .mv (.c (.t (.b false))), none⟩)]
abbrev f24r0 : Pc := .reg f24o0 [0, 2, 4] []
abbrev f24o1 : List (Nat × Pop) := [
  (0, ⟨(some 12), .load true 2 (.tmp 4), none⟩),
  (1, ⟨(some 13), .mv (.tmp 2), none⟩),
  (2, ⟨(some 14), .call 39 [(.tmp 12), (.tmp 13)], none⟩),
  (3, ⟨(some 15), .un .not (.tmp 14), none⟩)]
abbrev f24r1 : Pc := .reg f24o1 [0, 2, 4, 15] []
abbrev f24o2 : List (Nat × Pop) := [
  (0, ⟨(some 6), .mv (.c (.t (.i .i64 0))), none⟩),
  (1, ⟨(some 7), .mv (.c (.t (.i .i64 0))), none⟩),
  (2, ⟨(some 8), .mv (.c (.t (.b false))), none⟩)]
abbrev f24r2 : Pc := .reg f24o2 [6, 7, 8] [4]
abbrev f24o3 : List (Nat × Pop) := [
  (0, ⟨(some 9), .mv (.c (.t (.i .i64 (-1)))), none⟩)]
abbrev f24r3 : Pc := .reg f24o3 [0, 2, 4, 9] []
abbrev f24o4 : List (Nat × Pop) := [
  (0, ⟨(some 16), .fad 1 (.tmp 4), none⟩),
  (1, ⟨(some 17), .load false 1 (.tmp 16), none⟩),
  (2, ⟨(some 18), .lenL (.tmp 17), none⟩),
  (3, ⟨(some 19), .mv (.c (.t (.i .i64 0))), none⟩)]
abbrev f24r4 : Pc := .reg f24o4 [0, 2, 4, 9, 17, 18, 19] []
abbrev f24o5 : List (Nat × Pop) := [
  (0, ⟨(some 20), .bin .lss (.tmp 19) (.tmp 18), none⟩)]
abbrev f24r5 : Pc := .reg f24o5 [0, 2, 4, 9, 17, 18, 19, 20] []
abbrev f24o6 : List (Nat × Pop) := [
  (0, ⟨(some 21), .mv (.tmp 19), none⟩),
  (1, ⟨(some 22), .ixS 1 (.tmp 17) (.tmp 19), none⟩),
  (2, ⟨(some 23), .load false 1 (.tmp 22), none⟩),
  (3, ⟨(some 10), .mv (.tmp 21), none⟩),
  (4, ⟨(some 11), .mv (.tmp 23), none⟩)]
abbrev f24r6 : Pc := .reg f24o6 [0, 2, 4, 9, 10, 11, 17, 18, 19] []
abbrev f24o7 : List (Nat × Pop) := [
  (0, ⟨(some 24), .mv (.tmp 0), none⟩),
  (1, ⟨(some 25), .mv (.tmp 10), none⟩),
  (2, ⟨(some 26), .call 20 [(.tmp 24), (.tmp 25)], none⟩),
  (3, ⟨(some 27), .mv (.tmp 2), none⟩),
  (4, ⟨(some 28), .mv (.tmp 11), none⟩),
  (5, ⟨(some 29), .lenL (.tmp 28), none⟩),
  (6, ⟨(some 30), .bin .mul (.tmp 27) (.tmp 29), none⟩),
  (7, ⟨(some 31), .bin .leq (.tmp 26) (.tmp 30), none⟩),
  (8, ⟨(some 32), .mv (.tmp 31), none⟩),
  (9, ⟨(some 33), .load true 2 (.tmp 4), (some (32, false))⟩),
  (10, ⟨(some 34), .mv (.tmp 10), (some (32, false))⟩),
  (11, ⟨(some 35), .call 40 [(.tmp 33), (.tmp 34)], (some (32, false))⟩),
  (12, ⟨(some 36), .bin .eql (.tmp 35) (.c (.t (.i .i64 0))), (some (32, false))⟩),
  (13, ⟨(some 37), .pick (.tmp 32) (.c (.t (.b true))) (.tmp 36), none⟩)]
abbrev f24r7 : Pc := .reg f24o7 [0, 2, 4, 9, 10, 17, 18, 19, 37] []
abbrev f24o8 : List (Nat × Pop) := [
  (0, ⟨(some 38), .mv (.tmp 9), none⟩),
  (1, ⟨(some 39), .bin .lss (.tmp 38) (.c (.t (.i .i64 0))), none⟩),
  (2, ⟨(some 40), .mv (.tmp 39), none⟩),
  (3, ⟨(some 41), .mv (.tmp 0), (some (40, false))⟩),
  (4, ⟨(some 42), .mv (.tmp 10), (some (40, false))⟩),
  (5, ⟨(some 43), .call 20 [(.tmp 41), (.tmp 42)], (some (40, false))⟩),
  (6, ⟨(some 44), .mv (.tmp 0), (some (40, false))⟩),
  (7, ⟨(some 45), .mv (.tmp 9), (some (40, false))⟩),
  (8, ⟨(some 46), .call 20 [(.tmp 44), (.tmp 45)], (some (40, false))⟩),
  (9, ⟨(some 47), .bin .gtr (.tmp 43) (.tmp 46), (some (40, false))⟩),
  (10, ⟨(some 48), .pick (.tmp 40) (.c (.t (.b true))) (.tmp 47), none⟩)]
abbrev f24r8 : Pc := .reg f24o8 [0, 2, 4, 9, 10, 17, 18, 19, 48] []
abbrev f24o9 : List (Nat × Pop) := [
  (0, ⟨(some 49), .mv (.tmp 10), none⟩),
  (1, ⟨(some 9), .mv (.tmp 49), none⟩)]
abbrev f24r9 : Pc := .reg f24o9 [0, 2, 4, 9, 17, 18, 19] []
abbrev f24o10 : List (Nat × Pop) := [
  (0, ⟨(some 50), .bin .add (.tmp 19) (.c (.t (.i .i64 1))), none⟩),
  (1, ⟨(some 19), .mv (.tmp 50), none⟩)]
abbrev f24r10 : Pc := .reg f24o10 [0, 2, 4, 9, 17, 18, 19] []
def f24l0 : Pc := (.seq f24r5 (.seq (.cond (.tmp 20) .skip (.exit 0)) (.seq (.block 1 (.seq f24r6 (.seq (.seq f24r7 (.cond (.tmp 37) (.exit 1) .skip)) (.seq f24r8 (.cond (.tmp 48) f24r9 .skip))))) f24r10)))
theorem f24l0e (C : Cfg) (s : St) : evL C f24l0 s = evL C (.seq f24r5 (.seq (.cond (.tmp 20) .skip (.exit 0)) (.seq (.block 1 (.seq f24r6 (.seq (.seq f24r7 (.cond (.tmp 37) (.exit 1) .skip)) (.seq f24r8 (.cond (.tmp 48) f24r9 .skip))))) f24r10))) s := rfl
abbrev f24o11 : List (Nat × Pop) := [
  (0, ⟨(some 51), .mv (.tmp 9), none⟩),
  (1, ⟨(some 52), .bin .lss (.tmp 51) (.c (.t (.i .i64 0))), none⟩)]
abbrev f24r11 : Pc := .reg f24o11 [4, 9, 52] []
abbrev f24o12 : List (Nat × Pop) := [
  (0, ⟨(some 6), .mv (.c (.t (.i .i64 0))), none⟩),
  (1, ⟨(some 7), .mv (.c (.t (.i .i64 0))), none⟩),
  (2, ⟨(some 8), .mv (.c (.t (.b false))), none⟩)]
abbrev f24r12 : Pc := .reg f24o12 [6, 7, 8] [4]
abbrev f24o13 : List (Nat × Pop) := [
  (0, ⟨(some 53), .mv (.tmp 9), none⟩),
  (1, ⟨(some 54), .load true 2 (.tmp 4), none⟩),
  (2, ⟨(some 55), .mv (.tmp 9), none⟩),
  (3, ⟨(some 56), .call 40 [(.tmp 54), (.tmp 55)], none⟩),
  (4, ⟨(some 6), .mv (.tmp 53), none⟩),
  (5, ⟨(some 7), .mv (.tmp 56), none⟩),
  (6, ⟨(some 8), .mv (.c (.t (.b true))), none⟩)]
abbrev f24r13 : Pc := .reg f24o13 [6, 7, 8] [4]
abbrev f24b : Pc := (.seq f24r0 (.seq (.seq f24r1 (.cond (.tmp 15) (.seq f24r2 .ret) .skip)) (.seq f24r3 (.seq (.seq f24r4 (.block 0 (.loop f24l0))) (.seq (.seq f24r11 (.cond (.tmp 52) (.seq f24r12 .ret) .skip)) (.seq f24r13 .ret))))))
abbrev f24 : Pfn := ⟨3, 57, [.tmp 6, .tmp 7, .tmp 8], f24b⟩
def f24K : Array (List Nat) := #[[0, 2, 4], [0, 2, 4, 15], [6, 7, 8], [0, 2, 4, 9], [0, 2, 4, 9, 17, 18, 19], [0, 2, 4, 9, 17, 18, 19, 20], [0, 2, 4, 9, 10, 11, 17, 18, 19], [0, 2, 4, 9, 10, 17, 18, 19, 37], [0, 2, 4, 9, 10, 17, 18, 19, 48], [0, 2, 4, 9, 17, 18, 19], [0, 2, 4, 9, 17, 18, 19], [4, 9, 52], [6, 7, 8], [6, 7, 8]]
def f24H : Array (List Nat) := #[[], [], [4], [], [], [], [], [], [], [], [], [], [4], [4]]
def f24A : Ann := ⟨fun r => f24K.getD r [], fun r => f24H.getD r [], fun r i => ([] : List (Nat × Nat)).contains (r, i)⟩
theorem f24C : compF Go.Proofs.Try.prog f24A 24 = some f24 := by kernel_rfl

/-- switchboard/load.Cold -/
abbrev f25o0 : List (Nat × Pop) := [
  (0, ⟨(some 4), .box 25 2 (.tmp 1), none⟩),
  (1, ⟨(some 6), .mv (.c (.t (.i .i64 0))), none⟩),
  (2, ⟨(some 7), .mv (.c (.t (.i .i64 0))), none⟩),
  (3, ⟨(some 8), .mv (.c (.t (.b false))), none⟩)]
abbrev f25r0 : Pc := .reg f25o0 [0, 2, 4] []
abbrev f25o1 : List (Nat × Pop) := [
  (0, ⟨(some 13), .load true 2 (.tmp 4), none⟩),
  (1, ⟨(some 14), .mv (.tmp 2), none⟩),
  (2, ⟨(some 15), .call 39 [(.tmp 13), (.tmp 14)], none⟩),
  (3, ⟨(some 16), .un .not (.tmp 15), none⟩)]
abbrev f25r1 : Pc := .reg f25o1 [0, 2, 4, 16] []
abbrev f25o2 : List (Nat × Pop) := [
  (0, ⟨(some 6), .mv (.c (.t (.i .i64 0))), none⟩),
  (1, ⟨(some 7), .mv (.c (.t (.i .i64 0))), none⟩),
  (2, ⟨(some 8), .mv (.c (.t (.b false))), none⟩)]
abbrev f25r2 : Pc := .reg f25o2 [6, 7, 8] [4]
abbrev f25o3 : List (Nat × Pop) := [
  (0, ⟨(some 9), .mv (.c (.t (.i .i64 (-1)))), none⟩)]
abbrev f25r3 : Pc := .reg f25o3 [0, 2, 4, 9] []
abbrev f25o4 : List (Nat × Pop) := [
  (0, ⟨(some 17), .fad 1 (.tmp 4), none⟩),
  (1, ⟨(some 18), .load false 1 (.tmp 17), none⟩),
  (2, ⟨(some 19), .lenL (.tmp 18), none⟩),
  (3, ⟨(some 20), .mv (.c (.t (.i .i64 0))), none⟩)]
abbrev f25r4 : Pc := .reg f25o4 [0, 2, 4, 9, 18, 19, 20] []
abbrev f25o5 : List (Nat × Pop) := [
  (0, ⟨(some 21), .bin .lss (.tmp 20) (.tmp 19), none⟩)]
abbrev f25r5 : Pc := .reg f25o5 [0, 2, 4, 9, 18, 19, 20, 21] []
abbrev f25o6 : List (Nat × Pop) := [
  (0, ⟨(some 22), .mv (.tmp 20), none⟩),
  (1, ⟨(some 23), .ixS 1 (.tmp 18) (.tmp 20), none⟩),
  (2, ⟨(some 24), .load false 1 (.tmp 23), none⟩),
  (3, ⟨(some 10), .mv (.tmp 22), none⟩),
  (4, ⟨(some 11), .mv (.tmp 24), none⟩)]
abbrev f25r6 : Pc := .reg f25o6 [0, 2, 4, 9, 10, 11, 18, 19, 20] []
abbrev f25o7 : List (Nat × Pop) := [
  (0, ⟨(some 25), .mv (.tmp 11), none⟩),
  (1, ⟨(some 26), .lenL (.tmp 25), none⟩),
  (2, ⟨(some 27), .bin .lss (.tmp 26) (.c (.t (.i .i64 2))), none⟩),
  (3, ⟨(some 28), .mv (.tmp 27), none⟩),
  (4, ⟨(some 29), .mv (.tmp 0), (some (28, false))⟩),
  (5, ⟨(some 30), .mv (.tmp 10), (some (28, false))⟩),
  (6, ⟨(some 31), .call 20 [(.tmp 29), (.tmp 30)], (some (28, false))⟩),
  (7, ⟨(some 32), .mv (.tmp 2), (some (28, false))⟩),
  (8, ⟨(some 33), .mv (.tmp 11), (some (28, false))⟩),
  (9, ⟨(some 34), .lenL (.tmp 33), (some (28, false))⟩),
  (10, ⟨(some 35), .bin .sub (.tmp 34) (.c (.t (.i .i64 1))), (some (28, false))⟩),
  (11, ⟨(some 36), .bin .mul (.tmp 32) (.tmp 35), (some (28, false))⟩),
  (12, ⟨(some 37), .bin .geq (.tmp 31) (.tmp 36), (some (28, false))⟩),
  (13, ⟨(some 38), .pick (.tmp 28) (.c (.t (.b true))) (.tmp 37), none⟩)]
abbrev f25r7 : Pc := .reg f25o7 [0, 2, 4, 9, 10, 18, 19, 20, 38] []
abbrev f25o8 : List (Nat × Pop) := [
  (0, ⟨(some 39), .mv (.tmp 9), none⟩),
  (1, ⟨(some 40), .bin .lss (.tmp 39) (.c (.t (.i .i64 0))), none⟩),
  (2, ⟨(some 41), .mv (.tmp 40), none⟩),
  (3, ⟨(some 42), .mv (.tmp 0), (some (41, false))⟩),
  (4, ⟨(some 43), .mv (.tmp 10), (some (41, false))⟩),
  (5, ⟨(some 44), .call 20 [(.tmp 42), (.tmp 43)], (some (41, false))⟩),
  (6, ⟨(some 45), .mv (.tmp 0), (some (41, false))⟩),
  (7, ⟨(some 46), .mv (.tmp 9), (some (41, false))⟩),
  (8, ⟨(some 47), .call 20 [(.tmp 45), (.tmp 46)], (some (41, false))⟩),
  (9, ⟨(some 48), .bin .lss (.tmp 44) (.tmp 47), (some (41, false))⟩),
  (10, ⟨(some 49), .pick (.tmp 41) (.c (.t (.b true))) (.tmp 48), none⟩)]
abbrev f25r8 : Pc := .reg f25o8 [0, 2, 4, 9, 10, 18, 19, 20, 49] []
abbrev f25o9 : List (Nat × Pop) := [
  (0, ⟨(some 50), .mv (.tmp 10), none⟩),
  (1, ⟨(some 9), .mv (.tmp 50), none⟩)]
abbrev f25r9 : Pc := .reg f25o9 [0, 2, 4, 9, 18, 19, 20] []
abbrev f25o10 : List (Nat × Pop) := [
  (0, ⟨(some 51), .bin .add (.tmp 20) (.c (.t (.i .i64 1))), none⟩),
  (1, ⟨(some 20), .mv (.tmp 51), none⟩)]
abbrev f25r10 : Pc := .reg f25o10 [0, 2, 4, 9, 18, 19, 20] []
def f25l0 : Pc := (.seq f25r5 (.seq (.cond (.tmp 21) .skip (.exit 0)) (.seq (.block 1 (.seq f25r6 (.seq (.seq f25r7 (.cond (.tmp 38) (.exit 1) .skip)) (.seq f25r8 (.cond (.tmp 49) f25r9 .skip))))) f25r10)))
theorem f25l0e (C : Cfg) (s : St) : evL C f25l0 s = evL C (.seq f25r5 (.seq (.cond (.tmp 21) .skip (.exit 0)) (.seq (.block 1 (.seq f25r6 (.seq (.seq f25r7 (.cond (.tmp 38) (.exit 1) .skip)) (.seq f25r8 (.cond (.tmp 49) f25r9 .skip))))) f25r10))) s := rfl
abbrev f25o11 : List (Nat × Pop) := [
  (0, ⟨(some 52), .mv (.tmp 9), none⟩),
  (1, ⟨(some 53), .bin .lss (.tmp 52) (.c (.t (.i .i64 0))), none⟩)]
abbrev f25r11 : Pc := .reg f25o11 [4, 9, 53] []
abbrev f25o12 : List (Nat × Pop) := [
  (0, ⟨(some 6), .mv (.c (.t (.i .i64 0))), none⟩),
  (1, ⟨(some 7), .mv (.c (.t (.i .i64 0))), none⟩),
  (2, ⟨(some 8), .mv (.c (.t (.b false))), none⟩)]
abbrev f25r12 : Pc := .reg f25o12 [6, 7, 8] [4]
abbrev f25o13 : List (Nat × Pop) := [
  (0, ⟨(some 54), .fad 1 (.tmp 4), none⟩),
  (1, ⟨(some 55), .load false 1 (.tmp 54), none⟩),
  (2, ⟨(some 56), .mv (.tmp 9), none⟩),
  (3, ⟨(some 57), .ixS 1 (.tmp 55) (.tmp 56), none⟩),
  (4, ⟨(some 58), .load false 1 (.tmp 57), none⟩),
  (5, ⟨(some 12), .mv (.tmp 58), none⟩)]
abbrev f25r13 : Pc := .reg f25o13 [9, 12] [4]
abbrev f25o14 : List (Nat × Pop) := [
  (0, ⟨(some 59), .mv (.tmp 9), none⟩),
  (1, ⟨(some 60), .mv (.tmp 12), none⟩),
  (2, ⟨(some 61), .mv (.tmp 12), none⟩),
  (3, ⟨(some 62), .lenL (.tmp 61), none⟩),
  (4, ⟨(some 63), .bin .sub (.tmp 62) (.c (.t (.i .i64 1))), none⟩),
  (5, ⟨(some 64), .ixS 1 (.tmp 60) (.tmp 63), none⟩),
  (6, ⟨(some 65), .load false 1 (.tmp 64), none⟩),
  (7, ⟨(some 6), .mv (.tmp 59), none⟩),
  (8, ⟨(some 7), .mv (.tmp 65), none⟩),
  (9, ⟨(some 8), .mv (.c (.t (.b true))), none⟩)]
abbrev f25r14 : Pc := .reg f25o14 [6, 7, 8] []
abbrev f25b : Pc := (.seq f25r0 (.seq (.seq f25r1 (.cond (.tmp 16) (.seq f25r2 .ret) .skip)) (.seq f25r3 (.seq (.seq f25r4 (.block 0 (.loop f25l0))) (.seq (.seq f25r11 (.cond (.tmp 53) (.seq f25r12 .ret) .skip)) (.seq f25r13 (.seq f25r14 .ret)))))))
abbrev f25 : Pfn := ⟨3, 66, [.tmp 6, .tmp 7, .tmp 8], f25b⟩
def f25K : Array (List Nat) := #[[0, 2, 4], [0, 2, 4, 16], [6, 7, 8], [0, 2, 4, 9], [0, 2, 4, 9, 18, 19, 20], [0, 2, 4, 9, 18, 19, 20, 21], [0, 2, 4, 9, 10, 11, 18, 19, 20], [0, 2, 4, 9, 10, 18, 19, 20, 38], [0, 2, 4, 9, 10, 18, 19, 20, 49], [0, 2, 4, 9, 18, 19, 20], [0, 2, 4, 9, 18, 19, 20], [4, 9, 53], [6, 7, 8], [9, 12], [6, 7, 8]]
def f25H : Array (List Nat) := #[[], [], [4], [], [], [], [], [], [], [], [], [], [4], [4], []]
def f25A : Ann := ⟨fun r => f25K.getD r [], fun r => f25H.getD r [], fun r i => ([] : List (Nat × Nat)).contains (r, i)⟩
theorem f25C : compF Go.Proofs.Try.prog f25A 25 = some f25 := by kernel_rfl

/-- switchboard/switchboardref21.Hot -/
abbrev f26o0 : List (Nat × Pop) := [
  (0, ⟨(some 4), .box 33 2 (.tmp 1), none⟩),
  (1, ⟨(some 6), .mv (.c (.t (.i .i64 0))), none⟩),
  (2, ⟨(some 7), .mv (.c (.t (.i .i64 0))), none⟩),
  (3, ⟨(some 8), .mv (.c (.t (.b false))), none⟩)]
abbrev f26r0 : Pc := .reg f26o0 [0, 2, 4] []
abbrev f26o1 : List (Nat × Pop) := [
  (0, ⟨(some 12), .load true 2 (.tmp 4), none⟩),
  (1, ⟨(some 13), .call 23 [(.tmp 12)], none⟩),
  (2, ⟨(some 14), .un .not (.tmp 13), none⟩),
  (3, ⟨(some 15), .mv (.tmp 14), none⟩),
  (4, ⟨(some 16), .mv (.tmp 2), (some (15, false))⟩),
  (5, ⟨(some 17), .bin .lss (.tmp 16) (.c (.t (.i .i64 1))), (some (15, false))⟩),
  (6, ⟨(some 18), .pick (.tmp 15) (.c (.t (.b true))) (.tmp 17), none⟩),
  (7, ⟨(some 19), .mv (.tmp 18), none⟩),
  (8, ⟨(some 20), .mv (.tmp 2), (some (19, false))⟩),
  (9, ⟨(some 21), .bin .gtr (.tmp 20) (.c (.t (.i .i64 2147483647))), (some (19, false))⟩),
  (10, ⟨(some 22), .pick (.tmp 19) (.c (.t (.b true))) (.tmp 21), none⟩)]
abbrev f26r1 : Pc := .reg f26o1 [0, 2, 4, 22] []
abbrev f26o2 : List (Nat × Pop) := [
  (0, ⟨(some 6), .mv (.c (.t (.i .i64 0))), none⟩),
  (1, ⟨(some 7), .mv (.c (.t (.i .i64 0))), none⟩),
  (2, ⟨(some 8), .mv (.c (.t (.b false))), none⟩)]
abbrev f26r2 : Pc := .reg f26o2 [6, 7, 8] [4]
abbrev f26o3 : List (Nat × Pop) := [
  (0, ⟨(some 9), .mv (.c (.t (.i .i64 0))), none⟩)]
abbrev f26r3 : Pc := .reg f26o3 [0, 2, 4, 9] []
abbrev f26o4 : List (Nat × Pop) := [
  (0, ⟨(some 23), .mv (.tmp 9), none⟩),
  (1, ⟨(some 24), .fad 1 (.tmp 4), none⟩),
  (2, ⟨(some 25), .load false 1 (.tmp 24), none⟩),
  (3, ⟨(some 26), .lenL (.tmp 25), none⟩),
  (4, ⟨(some 27), .bin .lss (.tmp 23) (.tmp 26), none⟩)]
abbrev f26r4 : Pc := .reg f26o4 [0, 2, 4, 9, 27] []
abbrev f26o6 : List (Nat × Pop) := [
  (0, ⟨(some 30), .mv (.tmp 0), none⟩),
  (1, ⟨(some 31), .load true 2 (.tmp 4), none⟩),
  (2, ⟨(some 32), .mv (.tmp 2), none⟩),
  (3, ⟨(some 33), .mv (.tmp 9), none⟩),
  (4, ⟨(some 34), .call 41 [(.tmp 30), (.tmp 31), (.tmp 32), (.tmp 33)], none⟩),
  (5, ⟨(some 10), .mv (.tmp 34), none⟩)]
abbrev f26r6 : Pc := .reg f26o6 [0, 2, 4, 9, 10] []
abbrev f26o7 : List (Nat × Pop) := [
  (0, ⟨(some 11), .mv (.c (.t (.i .i64 0))), none⟩)]
abbrev f26r7 : Pc := .reg f26o7 [0, 2, 4, 9, 10, 11] []
abbrev f26o8 : List (Nat × Pop) := [
  (0, ⟨(some 35), .mv (.tmp 11), none⟩),
  (1, ⟨(some 36), .fad 1 (.tmp 4), none⟩),
  (2, ⟨(some 37), .load false 1 (.tmp 36), none⟩),
  (3, ⟨(some 38), .lenL (.tmp 37), none⟩),
  (4, ⟨(some 39), .bin .lss (.tmp 35) (.tmp 38), none⟩)]
abbrev f26r8 : Pc := .reg f26o8 [0, 2, 4, 9, 10, 11, 39] []
abbrev f26o10 : List (Nat × Pop) := [
  (0, ⟨(some 42), .mv (.tmp 0), none⟩),
  (1, ⟨(some 43), .load true 2 (.tmp 4), none⟩),
  (2, ⟨(some 44), .mv (.tmp 2), none⟩),
  (3, ⟨(some 45), .mv (.tmp 11), none⟩),
  (4, ⟨(some 46), .call 41 [(.tmp 42), (.tmp 43), (.tmp 44), (.tmp 45)], none⟩),
  (5, ⟨(some 47), .mv (.tmp 46), none⟩),
  (6, ⟨(some 48), .mv (.tmp 0), (some (47, true))⟩),
  (7, ⟨(some 49), .mv (.tmp 11), (some (47, true))⟩),
  (8, ⟨(some 50), .call 18 [(.tmp 48), (.tmp 49)], (some (47, true))⟩),
  (9, ⟨(some 51), .mv (.tmp 0), (some (47, true))⟩),
  (10, ⟨(some 52), .mv (.tmp 9), (some (47, true))⟩),
  (11, ⟨(some 53), .call 18 [(.tmp 51), (.tmp 52)], (some (47, true))⟩),
  (12, ⟨(some 54), .bin .gtr (.tmp 50) (.tmp 53), (some (47, true))⟩),
  (13, ⟨(some 55), .mv (.tmp 54), (some (47, true))⟩),
  (14, ⟨(some 56), .mv (.tmp 0), (some (55, false))⟩),
  (15, ⟨(some 57), .mv (.tmp 11), (some (55, false))⟩),
  (16, ⟨(some 58), .call 18 [(.tmp 56), (.tmp 57)], (some (55, false))⟩),
  (17, ⟨(some 59), .mv (.tmp 0), (some (55, false))⟩),
  (18, ⟨(some 60), .mv (.tmp 9), (some (55, false))⟩),
  (19, ⟨(some 61), .call 18 [(.tmp 59), (.tmp 60)], (some (55, false))⟩),
  (20, ⟨(some 62), .bin .eql (.tmp 58) (.tmp 61), (some (55, false))⟩),
  (21, ⟨(some 63), .mv (.tmp 62), (some (55, false))⟩),
  (22, ⟨(some 64), .mv (.tmp 11), (some (63, true))⟩),
  (23, ⟨(some 65), .mv (.tmp 9), (some (63, true))⟩),
  (24, ⟨(some 66), .bin .lss (.tmp 64) (.tmp 65), (some (63, true))⟩),
  (25, ⟨(some 67), .pick (.tmp 63) (.tmp 66) (.c (.t (.b false))), (some (55, false))⟩),
  (26, ⟨(some 68), .pick (.tmp 55) (.c (.t (.b true))) (.tmp 67), (some (47, true))⟩),
  (27, ⟨(some 69), .pick (.tmp 47) (.tmp 68) (.c (.t (.b false))), none⟩)]
abbrev f26r10 : Pc := .reg f26o10 [0, 2, 4, 9, 10, 11, 69] []
abbrev f26o11 : List (Nat × Pop) := [
  (0, ⟨(some 10), .mv (.c (.t (.b false))), none⟩)]
abbrev f26r11 : Pc := .reg f26o11 [0, 2, 4, 9, 10, 11] []
abbrev f26o9 : List (Nat × Pop) := [
  (0, ⟨(some 40), .mv (.tmp 11), none⟩),
  (1, ⟨(some 41), .bin .add (.tmp 40) (.c (.t (.i .i64 1))), none⟩),
  (2, ⟨(some 11), .mv (.tmp 41), none⟩)]
abbrev f26r9 : Pc := .reg f26o9 [0, 2, 4, 9, 10, 11] []
def f26l0 : Pc := (.seq (.seq f26r8 (.cond (.tmp 39) .skip (.exit 2))) (.seq (.block 3 (.seq f26r10 (.cond (.tmp 69) f26r11 .skip))) f26r9))
theorem f26l0e (C : Cfg) (s : St) : evL C f26l0 s = evL C (.seq (.seq f26r8 (.cond (.tmp 39) .skip (.exit 2))) (.seq (.block 3 (.seq f26r10 (.cond (.tmp 69) f26r11 .skip))) f26r9)) s := rfl
abbrev f26o12 : List (Nat × Pop) := [
  (0, ⟨(some 70), .mv (.tmp 10), none⟩)]
abbrev f26r12 : Pc := .reg f26o12 [0, 2, 4, 9, 70] []
abbrev f26o13 : List (Nat × Pop) := [
  (0, ⟨(some 71), .mv (.tmp 9), none⟩),
  (1, ⟨(some 72), .load true 2 (.tmp 4), none⟩),
  (2, ⟨(some 73), .mv (.tmp 9), none⟩),
  (3, ⟨(some 74), .call 42 [(.tmp 72), (.tmp 73)], none⟩),
  (4, ⟨(some 6), .mv (.tmp 71), none⟩),
  (5, ⟨(some 7), .mv (.tmp 74), none⟩),
  (6, ⟨(some 8), .mv (.c (.t (.b true))), none⟩)]
abbrev f26r13 : Pc := .reg f26o13 [6, 7, 8] [4]
abbrev f26o5 : List (Nat × Pop) := [
  (0, ⟨(some 28), .mv (.tmp 9), none⟩),
  (1, ⟨(some 29), .bin .add (.tmp 28) (.c (.t (.i .i64 1))), none⟩),
  (2, ⟨(some 9), .mv (.tmp 29), none⟩)]
abbrev f26r5 : Pc := .reg f26o5 [0, 2, 4, 9] []
def f26l1 : Pc := (.seq (.seq f26r4 (.cond (.tmp 27) .skip (.exit 0))) (.seq (.block 1 (.seq f26r6 (.seq (.seq f26r7 (.block 2 (.loop f26l0))) (.seq f26r12 (.cond (.tmp 70) (.seq f26r13 .ret) .skip))))) f26r5))
theorem f26l1e (C : Cfg) (s : St) : evL C f26l1 s = evL C (.seq (.seq f26r4 (.cond (.tmp 27) .skip (.exit 0))) (.seq (.block 1 (.seq f26r6 (.seq (.seq f26r7 (.block 2 (.loop f26l0))) (.seq f26r12 (.cond (.tmp 70) (.seq f26r13 .ret) .skip))))) f26r5)) s := rfl
abbrev f26o14 : List (Nat × Pop) := [
  (0, ⟨(some 6), .mv (.c (.t (.i .i64 0))), none⟩),
  (1, ⟨(some 7), .mv (.c (.t (.i .i64 0))), none⟩),
  (2, ⟨(some 8), .mv (.c (.t (.b false))), none⟩)]
abbrev f26r14 : Pc := .reg f26o14 [6, 7, 8] [4]
abbrev f26b : Pc := (.seq f26r0 (.seq (.seq f26r1 (.cond (.tmp 22) (.seq f26r2 .ret) .skip)) (.seq (.seq f26r3 (.block 0 (.loop f26l1))) (.seq f26r14 .ret))))
abbrev f26 : Pfn := ⟨3, 75, [.tmp 6, .tmp 7, .tmp 8], f26b⟩
def f26K : Array (List Nat) := #[[0, 2, 4], [0, 2, 4, 22], [6, 7, 8], [0, 2, 4, 9], [0, 2, 4, 9, 27], [0, 2, 4, 9], [0, 2, 4, 9, 10], [0, 2, 4, 9, 10, 11], [0, 2, 4, 9, 10, 11, 39], [0, 2, 4, 9, 10, 11], [0, 2, 4, 9, 10, 11, 69], [0, 2, 4, 9, 10, 11], [0, 2, 4, 9, 70], [6, 7, 8], [6, 7, 8]]
def f26H : Array (List Nat) := #[[], [], [4], [], [], [], [], [], [], [], [], [], [], [4], [4]]
def f26A : Ann := ⟨fun r => f26K.getD r [], fun r => f26H.getD r [], fun r i => ([] : List (Nat × Nat)).contains (r, i)⟩
theorem f26C : compF Go.Proofs.Try.prog f26A 26 = some f26 := by kernel_rfl

/-- switchboard/switchboardref21.Cold -/
abbrev f27o0 : List (Nat × Pop) := [
  (0, ⟨(some 4), .box 33 2 (.tmp 1), none⟩),
  (1, ⟨(some 6), .mv (.c (.t (.i .i64 0))), none⟩),
  (2, ⟨(some 7), .mv (.c (.t (.i .i64 0))), none⟩),
  (3, ⟨(some 8), .mv (.c (.t (.b false))), none⟩)]
abbrev f27r0 : Pc := .reg f27o0 [0, 2, 4] []
abbrev f27o1 : List (Nat × Pop) := [
  (0, ⟨(some 12), .load true 2 (.tmp 4), none⟩),
  (1, ⟨(some 13), .call 23 [(.tmp 12)], none⟩),
  (2, ⟨(some 14), .un .not (.tmp 13), none⟩),
  (3, ⟨(some 15), .mv (.tmp 14), none⟩),
  (4, ⟨(some 16), .mv (.tmp 2), (some (15, false))⟩),
  (5, ⟨(some 17), .bin .lss (.tmp 16) (.c (.t (.i .i64 1))), (some (15, false))⟩),
  (6, ⟨(some 18), .pick (.tmp 15) (.c (.t (.b true))) (.tmp 17), none⟩),
  (7, ⟨(some 19), .mv (.tmp 18), none⟩),
  (8, ⟨(some 20), .mv (.tmp 2), (some (19, false))⟩),
  (9, ⟨(some 21), .bin .gtr (.tmp 20) (.c (.t (.i .i64 2147483647))), (some (19, false))⟩),
  (10, ⟨(some 22), .pick (.tmp 19) (.c (.t (.b true))) (.tmp 21), none⟩)]
abbrev f27r1 : Pc := .reg f27o1 [0, 2, 4, 22] []
abbrev f27o2 : List (Nat × Pop) := [
  (0, ⟨(some 6), .mv (.c (.t (.i .i64 0))), none⟩),
  (1, ⟨(some 7), .mv (.c (.t (.i .i64 0))), none⟩),
  (2, ⟨(some 8), .mv (.c (.t (.b false))), none⟩)]
abbrev f27r2 : Pc := .reg f27o2 [6, 7, 8] [4]
abbrev f27o3 : List (Nat × Pop) := [
  (0, ⟨(some 9), .mv (.c (.t (.i .i64 0))), none⟩)]
abbrev f27r3 : Pc := .reg f27o3 [0, 2, 4, 9] []
abbrev f27o4 : List (Nat × Pop) := [
  (0, ⟨(some 23), .mv (.tmp 9), none⟩),
  (1, ⟨(some 24), .fad 1 (.tmp 4), none⟩),
  (2, ⟨(some 25), .load false 1 (.tmp 24), none⟩),
  (3, ⟨(some 26), .lenL (.tmp 25), none⟩),
  (4, ⟨(some 27), .bin .lss (.tmp 23) (.tmp 26), none⟩)]
abbrev f27r4 : Pc := .reg f27o4 [0, 2, 4, 9, 27] []
abbrev f27o6 : List (Nat × Pop) := [
  (0, ⟨(some 30), .mv (.tmp 0), none⟩),
  (1, ⟨(some 31), .load true 2 (.tmp 4), none⟩),
  (2, ⟨(some 32), .mv (.tmp 2), none⟩),
  (3, ⟨(some 33), .mv (.tmp 9), none⟩),
  (4, ⟨(some 34), .call 43 [(.tmp 30), (.tmp 31), (.tmp 32), (.tmp 33)], none⟩),
  (5, ⟨(some 10), .mv (.tmp 34), none⟩)]
abbrev f27r6 : Pc := .reg f27o6 [0, 2, 4, 9, 10] []
abbrev f27o7 : List (Nat × Pop) := [
  (0, ⟨(some 11), .mv (.c (.t (.i .i64 0))), none⟩)]
abbrev f27r7 : Pc := .reg f27o7 [0, 2, 4, 9, 10, 11] []
abbrev f27o8 : List (Nat × Pop) := [
  (0, ⟨(some 35), .mv (.tmp 11), none⟩),
  (1, ⟨(some 36), .fad 1 (.tmp 4), none⟩),
  (2, ⟨(some 37), .load false 1 (.tmp 36), none⟩),
  (3, ⟨(some 38), .lenL (.tmp 37), none⟩),
  (4, ⟨(some 39), .bin .lss (.tmp 35) (.tmp 38), none⟩)]
abbrev f27r8 : Pc := .reg f27o8 [0, 2, 4, 9, 10, 11, 39] []
abbrev f27o10 : List (Nat × Pop) := [
  (0, ⟨(some 42), .mv (.tmp 0), none⟩),
  (1, ⟨(some 43), .load true 2 (.tmp 4), none⟩),
  (2, ⟨(some 44), .mv (.tmp 2), none⟩),
  (3, ⟨(some 45), .mv (.tmp 11), none⟩),
  (4, ⟨(some 46), .call 43 [(.tmp 42), (.tmp 43), (.tmp 44), (.tmp 45)], none⟩),
  (5, ⟨(some 47), .mv (.tmp 46), none⟩),
  (6, ⟨(some 48), .mv (.tmp 0), (some (47, true))⟩),
  (7, ⟨(some 49), .mv (.tmp 11), (some (47, true))⟩),
  (8, ⟨(some 50), .call 18 [(.tmp 48), (.tmp 49)], (some (47, true))⟩),
  (9, ⟨(some 51), .mv (.tmp 0), (some (47, true))⟩),
  (10, ⟨(some 52), .mv (.tmp 9), (some (47, true))⟩),
  (11, ⟨(some 53), .call 18 [(.tmp 51), (.tmp 52)], (some (47, true))⟩),
  (12, ⟨(some 54), .bin .lss (.tmp 50) (.tmp 53), (some (47, true))⟩),
  (13, ⟨(some 55), .mv (.tmp 54), (some (47, true))⟩),
  (14, ⟨(some 56), .mv (.tmp 0), (some (55, false))⟩),
  (15, ⟨(some 57), .mv (.tmp 11), (some (55, false))⟩),
  (16, ⟨(some 58), .call 18 [(.tmp 56), (.tmp 57)], (some (55, false))⟩),
  (17, ⟨(some 59), .mv (.tmp 0), (some (55, false))⟩),
  (18, ⟨(some 60), .mv (.tmp 9), (some (55, false))⟩),
  (19, ⟨(some 61), .call 18 [(.tmp 59), (.tmp 60)], (some (55, false))⟩),
  (20, ⟨(some 62), .bin .eql (.tmp 58) (.tmp 61), (some (55, false))⟩),
  (21, ⟨(some 63), .mv (.tmp 62), (some (55, false))⟩),
  (22, ⟨(some 64), .mv (.tmp 11), (some (63, true))⟩),
  (23, ⟨(some 65), .mv (.tmp 9), (some (63, true))⟩),
  (24, ⟨(some 66), .bin .lss (.tmp 64) (.tmp 65), (some (63, true))⟩),
  (25, ⟨(some 67), .pick (.tmp 63) (.tmp 66) (.c (.t (.b false))), (some (55, false))⟩),
  (26, ⟨(some 68), .pick (.tmp 55) (.c (.t (.b true))) (.tmp 67), (some (47, true))⟩),
  (27, ⟨(some 69), .pick (.tmp 47) (.tmp 68) (.c (.t (.b false))), none⟩)]
abbrev f27r10 : Pc := .reg f27o10 [0, 2, 4, 9, 10, 11, 69] []
abbrev f27o11 : List (Nat × Pop) := [
  (0, ⟨(some 10), .mv (.c (.t (.b false))), none⟩)]
abbrev f27r11 : Pc := .reg f27o11 [0, 2, 4, 9, 10, 11] []
abbrev f27o9 : List (Nat × Pop) := [
  (0, ⟨(some 40), .mv (.tmp 11), none⟩),
  (1, ⟨(some 41), .bin .add (.tmp 40) (.c (.t (.i .i64 1))), none⟩),
  (2, ⟨(some 11), .mv (.tmp 41), none⟩)]
abbrev f27r9 : Pc := .reg f27o9 [0, 2, 4, 9, 10, 11] []
def f27l0 : Pc := (.seq (.seq f27r8 (.cond (.tmp 39) .skip (.exit 2))) (.seq (.block 3 (.seq f27r10 (.cond (.tmp 69) f27r11 .skip))) f27r9))
theorem f27l0e (C : Cfg) (s : St) : evL C f27l0 s = evL C (.seq (.seq f27r8 (.cond (.tmp 39) .skip (.exit 2))) (.seq (.block 3 (.seq f27r10 (.cond (.tmp 69) f27r11 .skip))) f27r9)) s := rfl
abbrev f27o12 : List (Nat × Pop) := [
  (0, ⟨(some 70), .mv (.tmp 10), none⟩)]
abbrev f27r12 : Pc := .reg f27o12 [0, 2, 4, 9, 70] []
abbrev f27o13 : List (Nat × Pop) := [
  (0, ⟨(some 71), .mv (.tmp 9), none⟩),
  (1, ⟨(some 72), .fad 1 (.tmp 4), none⟩),
  (2, ⟨(some 73), .load false 1 (.tmp 72), none⟩),
  (3, ⟨(some 74), .mv (.tmp 9), none⟩),
  (4, ⟨(some 75), .ixS 1 (.tmp 73) (.tmp 74), none⟩),
  (5, ⟨(some 76), .load false 1 (.tmp 75), none⟩),
  (6, ⟨(some 77), .fad 1 (.tmp 4), none⟩),
  (7, ⟨(some 78), .load false 1 (.tmp 77), none⟩),
  (8, ⟨(some 79), .mv (.tmp 9), none⟩),
  (9, ⟨(some 80), .ixS 1 (.tmp 78) (.tmp 79), none⟩),
  (10, ⟨(some 81), .load false 1 (.tmp 80), none⟩),
  (11, ⟨(some 82), .lenL (.tmp 81), none⟩),
  (12, ⟨(some 83), .bin .sub (.tmp 82) (.c (.t (.i .i64 1))), none⟩),
  (13, ⟨(some 84), .ixS 1 (.tmp 76) (.tmp 83), none⟩),
  (14, ⟨(some 85), .load false 1 (.tmp 84), none⟩),
  (15, ⟨(some 6), .mv (.tmp 71), none⟩),
  (16, ⟨(some 7), .mv (.tmp 85), none⟩),
  (17, ⟨(some 8), .mv (.c (.t (.b true))), none⟩)]
abbrev f27r13 : Pc := .reg f27o13 [6, 7, 8] [4]
abbrev f27o5 : List (Nat × Pop) := [
  (0, ⟨(some 28), .mv (.tmp 9), none⟩),
  (1, ⟨(some 29), .bin .add (.tmp 28) (.c (.t (.i .i64 1))), none⟩),
  (2, ⟨(some 9), .mv (.tmp 29), none⟩)]
abbrev f27r5 : Pc := .reg f27o5 [0, 2, 4, 9] []
def f27l1 : Pc := (.seq (.seq f27r4 (.cond (.tmp 27) .skip (.exit 0))) (.seq (.block 1 (.seq f27r6 (.seq (.seq f27r7 (.block 2 (.loop f27l0))) (.seq f27r12 (.cond (.tmp 70) (.seq f27r13 .ret) .skip))))) f27r5))
theorem f27l1e (C : Cfg) (s : St) : evL C f27l1 s = evL C (.seq (.seq f27r4 (.cond (.tmp 27) .skip (.exit 0))) (.seq (.block 1 (.seq f27r6 (.seq (.seq f27r7 (.block 2 (.loop f27l0))) (.seq f27r12 (.cond (.tmp 70) (.seq f27r13 .ret) .skip))))) f27r5)) s := rfl
abbrev f27o14 : List (Nat × Pop) := [
  (0, ⟨(some 6), .mv (.c (.t (.i .i64 0))), none⟩),
  (1, ⟨(some 7), .mv (.c (.t (.i .i64 0))), none⟩),
  (2, ⟨(some 8), .mv (.c (.t (.b false))), none⟩)]
abbrev f27r14 : Pc := .reg f27o14 [6, 7, 8] [4]
abbrev f27b : Pc := (.seq f27r0 (.seq (.seq f27r1 (.cond (.tmp 22) (.seq f27r2 .ret) .skip)) (.seq (.seq f27r3 (.block 0 (.loop f27l1))) (.seq f27r14 .ret))))
abbrev f27 : Pfn := ⟨3, 86, [.tmp 6, .tmp 7, .tmp 8], f27b⟩
def f27K : Array (List Nat) := #[[0, 2, 4], [0, 2, 4, 22], [6, 7, 8], [0, 2, 4, 9], [0, 2, 4, 9, 27], [0, 2, 4, 9], [0, 2, 4, 9, 10], [0, 2, 4, 9, 10, 11], [0, 2, 4, 9, 10, 11, 39], [0, 2, 4, 9, 10, 11], [0, 2, 4, 9, 10, 11, 69], [0, 2, 4, 9, 10, 11], [0, 2, 4, 9, 70], [6, 7, 8], [6, 7, 8]]
def f27H : Array (List Nat) := #[[], [], [4], [], [], [], [], [], [], [], [], [], [], [4], [4]]
def f27A : Ann := ⟨fun r => f27K.getD r [], fun r => f27H.getD r [], fun r i => ([] : List (Nat × Nat)).contains (r, i)⟩
theorem f27C : compF Go.Proofs.Try.prog f27A 27 = some f27 := by kernel_rfl

/-- switchboard/place.Add -/
abbrev f34o0 : List (Nat × Pop) := [
  (0, ⟨(some 3), .box 25 2 (.tmp 0), none⟩),
  (1, ⟨(some 6), .alloc 25 [(.t (.i .i64 0)), .nl], none⟩),
  (2, ⟨(some 7), .mv (.c (.t (.i .i64 0))), none⟩)]
abbrev f34r0 : Pc := .reg f34o0 [1, 2, 3, 6] []
abbrev f34o1 : List (Nat × Pop) := [
  (0, ⟨(some 10), .load true 2 (.tmp 3), none⟩),
  (1, ⟨(some 11), .mv (.tmp 1), none⟩),
  (2, ⟨(some 12), .mv (.tmp 2), none⟩),
  (3, ⟨(some 13), .call 45 [(.tmp 10), (.tmp 11), (.tmp 12)], none⟩),
  (4, ⟨(some 14), .un .not (.tmp 13), none⟩),
  (5, ⟨(some 9), .mv (.tmp 14), none⟩)]
abbrev f34r1 : Pc := .reg f34o1 [1, 2, 3, 6, 9] []
abbrev f34o2 : List (Nat × Pop) := [
  (0, ⟨(some 15), .load true 2 (.tmp 3), none⟩),
  (1, ⟨none, .store 2 (.tmp 6) (.tmp 15), none⟩),
  (2, ⟨(some 7), .mv (.c (.t (.i .i64 1))), none⟩)]
abbrev f34r2 : Pc := .reg f34o2 [6, 7] [3]
abbrev f34o3 : List (Nat × Pop) := [
  (0, ⟨(some 17), .load true 2 (.tmp 3), none⟩),
  (1, ⟨(some 18), .mv (.tmp 1), none⟩),
  (2, ⟨(some 19), .mv (.tmp 2), none⟩),
  (3, ⟨(some 20), .call 46 [(.tmp 17), (.tmp 18), (.tmp 19)], none⟩),
  (4, ⟨(some 16), .mv (.tmp 20), none⟩)]
abbrev f34r3 : Pc := .reg f34o3 [1, 2, 3, 6, 16] []
abbrev f34o4 : List (Nat × Pop) := [
  (0, ⟨(some 21), .load true 2 (.tmp 3), none⟩),
  (1, ⟨none, .store 2 (.tmp 6) (.tmp 21), none⟩),
  (2, ⟨(some 7), .mv (.c (.t (.i .i64 5))), none⟩)]
abbrev f34r4 : Pc := .reg f34o4 [6, 7] [3]
abbrev f34o5 : List (Nat × Pop) := [
  (0, ⟨(some 22), .fad 1 (.tmp 3), none⟩),
  (1, ⟨(some 23), .load false 1 (.tmp 22), none⟩),
  (2, ⟨(some 24), .mv (.tmp 1), none⟩),
  (3, ⟨(some 25), .ixS 1 (.tmp 23) (.tmp 24), none⟩),
  (4, ⟨(some 26), .load false 1 (.tmp 25), none⟩),
  (5, ⟨(some 27), .call 36 [(.tmp 26)], none⟩),
  (6, ⟨(some 28), .mv (.tmp 2), none⟩),
  (7, ⟨(some 29), .bslT 1 [(.tmp 28)], none⟩),
  (8, ⟨(some 30), .app 3 1 8 (.tmp 27) (.tmp 29), none⟩),
  (9, ⟨(some 8), .mv (.tmp 30), none⟩)]
abbrev f34r5 : Pc := .reg f34o5 [1, 3, 6, 8] []
abbrev f34o6 : List (Nat × Pop) := [
  (0, ⟨(some 31), .mv (.tmp 8), none⟩),
  (1, ⟨(some 32), .call 44 [(.tmp 31)], none⟩)]
abbrev f34r6 : Pc := .reg f34o6 [1, 3, 6, 8] []
abbrev f34o7 : List (Nat × Pop) := [
  (0, ⟨(some 33), .load true 2 (.tmp 3), none⟩),
  (1, ⟨(some 34), .mv (.tmp 1), none⟩),
  (2, ⟨(some 35), .mv (.tmp 8), none⟩),
  (3, ⟨(some 36), .call 47 [(.tmp 33), (.tmp 34), (.tmp 35)], none⟩),
  (4, ⟨none, .store 2 (.tmp 6) (.tmp 36), none⟩),
  (5, ⟨(some 7), .mv (.c (.t (.i .i64 0))), none⟩)]
abbrev f34r7 : Pc := .reg f34o7 [6, 7] [3]
abbrev f34b : Pc := (.seq f34r0 (.seq (.block 0 (.seq f34r1 (.cond (.tmp 9) (.seq f34r2 .ret) (.seq f34r3 (.cond (.tmp 16) (.seq f34r4 .ret) .skip))))) (.seq f34r5 (.seq f34r6 (.seq f34r7 .ret)))))
abbrev f34 : Pfn := ⟨3, 37, [.cell 6 true 2, .tmp 7], f34b⟩
def f34K : Array (List Nat) := #[[1, 2, 3, 6], [1, 2, 3, 6, 9], [6, 7], [1, 2, 3, 6, 16], [6, 7], [1, 3, 6, 8], [1, 3, 6, 8], [6, 7]]
def f34H : Array (List Nat) := #[[], [], [3], [], [3], [], [], [3]]
def f34A : Ann := ⟨fun r => f34K.getD r [], fun r => f34H.getD r [], fun r i => ([] : List (Nat × Nat)).contains (r, i)⟩
theorem f34C : compF Go.Proofs.Try.prog f34A 34 = some f34 := by kernel_rfl

/-- switchboard/place.Retire -/
abbrev f35o0 : List (Nat × Pop) := [
  (0, ⟨(some 3), .box 25 2 (.tmp 0), none⟩),
  (1, ⟨(some 5), .box 3 1 (.tmp 2), none⟩),
  (2, ⟨(some 6), .alloc 25 [(.t (.i .i64 0)), .nl], none⟩),
  (3, ⟨(some 7), .mv (.c (.t (.i .i64 0))), none⟩)]
abbrev f35r0 : Pc := .reg f35o0 [1, 3, 5, 6] []
abbrev f35o1 : List (Nat × Pop) := [
  (0, ⟨(some 9), .load true 2 (.tmp 3), none⟩),
  (1, ⟨(some 10), .mv (.tmp 1), none⟩),
  (2, ⟨(some 11), .load false 1 (.tmp 5), none⟩),
  (3, ⟨(some 12), .call 45 [(.tmp 9), (.tmp 10), (.tmp 11)], none⟩),
  (4, ⟨(some 13), .un .not (.tmp 12), none⟩),
  (5, ⟨(some 8), .mv (.tmp 13), none⟩)]
abbrev f35r1 : Pc := .reg f35o1 [1, 3, 5, 6, 8] []
abbrev f35o2 : List (Nat × Pop) := [
  (0, ⟨(some 14), .load true 2 (.tmp 3), none⟩),
  (1, ⟨none, .store 2 (.tmp 6) (.tmp 14), none⟩),
  (2, ⟨(some 7), .mv (.c (.t (.i .i64 1))), none⟩)]
abbrev f35r2 : Pc := .reg f35o2 [6, 7] [3, 5]
abbrev f35o3 : List (Nat × Pop) := [
  (0, ⟨(some 16), .load true 2 (.tmp 3), none⟩),
  (1, ⟨(some 17), .mv (.tmp 1), none⟩),
  (2, ⟨(some 18), .load false 1 (.tmp 5), none⟩),
  (3, ⟨(some 19), .call 46 [(.tmp 16), (.tmp 17), (.tmp 18)], none⟩),
  (4, ⟨(some 20), .un .not (.tmp 19), none⟩),
  (5, ⟨(some 15), .mv (.tmp 20), none⟩)]
abbrev f35r3 : Pc := .reg f35o3 [1, 3, 5, 6, 15] []
abbrev f35o4 : List (Nat × Pop) := [
  (0, ⟨(some 21), .load true 2 (.tmp 3), none⟩),
  (1, ⟨none, .store 2 (.tmp 6) (.tmp 21), none⟩),
  (2, ⟨(some 7), .mv (.c (.t (.i .i64 4))), none⟩)]
abbrev f35r4 : Pc := .reg f35o4 [6, 7] [3, 5]
abbrev f35o5 : List (Nat × Pop) := [
  (0, ⟨(some 23), .fad 1 (.tmp 3), none⟩),
  (1, ⟨(some 24), .load false 1 (.tmp 23), none⟩),
  (2, ⟨(some 25), .mv (.tmp 1), none⟩),
  (3, ⟨(some 26), .ixS 1 (.tmp 24) (.tmp 25), none⟩),
  (4, ⟨(some 27), .load false 1 (.tmp 26), none⟩),
  (5, ⟨(some 28), .lenL (.tmp 27), none⟩),
  (6, ⟨(some 29), .bin .eql (.tmp 28) (.c (.t (.i .i64 1))), none⟩),
  (7, ⟨(some 22), .mv (.tmp 29), none⟩)]
abbrev f35r5 : Pc := .reg f35o5 [1, 3, 5, 6, 22] []
abbrev f35o6 : List (Nat × Pop) := [
  (0, ⟨(some 30), .load true 2 (.tmp 3), none⟩),
  (1, ⟨none, .store 2 (.tmp 6) (.tmp 30), none⟩),
  (2, ⟨(some 7), .mv (.c (.t (.i .i64 7))), none⟩)]
abbrev f35r6 : Pc := .reg f35o6 [6, 7] [3, 5]
abbrev f35o7 : List (Nat × Pop) := [
  (0, ⟨(some 31), .load true 2 (.tmp 3), none⟩),
  (1, ⟨(some 32), .mv (.tmp 1), none⟩),
  (2, ⟨(some 33), .fad 1 (.tmp 3), none⟩),
  (3, ⟨(some 34), .load false 1 (.tmp 33), none⟩),
  (4, ⟨(some 35), .mv (.tmp 1), none⟩),
  (5, ⟨(some 36), .ixS 1 (.tmp 34) (.tmp 35), none⟩),
  (6, ⟨(some 37), .load false 1 (.tmp 36), none⟩),
  (7, ⟨(some 38), .callq 36 [(.tmp 37)], none⟩),
  (8, ⟨(some 39), .mkfn 49 [(.tmp 5)], none⟩),
  (9, ⟨(some 40), .callq 48 [(.tmp 38), (.tmp 39)], none⟩),
  (10, ⟨(some 41), .callq 47 [(.tmp 31), (.tmp 32), (.tmp 40)], none⟩),
  (11, ⟨none, .store 2 (.tmp 6) (.tmp 41), none⟩),
  (12, ⟨(some 7), .mv (.c (.t (.i .i64 0))), none⟩)]
abbrev f35r7 : Pc := .reg f35o7 [6, 7] [3, 5]
abbrev f35b : Pc := (.seq f35r0 (.seq (.block 0 (.seq f35r1 (.cond (.tmp 8) (.seq f35r2 .ret) (.seq f35r3 (.cond (.tmp 15) (.seq f35r4 .ret) (.seq f35r5 (.cond (.tmp 22) (.seq f35r6 .ret) .skip))))))) (.seq f35r7 .ret)))
abbrev f35 : Pfn := ⟨3, 42, [.cell 6 true 2, .tmp 7], f35b⟩
def f35K : Array (List Nat) := #[[1, 3, 5, 6], [1, 3, 5, 6, 8], [6, 7], [1, 3, 5, 6, 15], [6, 7], [1, 3, 5, 6, 22], [6, 7], [6, 7]]
def f35H : Array (List Nat) := #[[], [], [3, 5], [], [3, 5], [], [3, 5], [3, 5]]
def f35A : Ann := ⟨fun r => f35K.getD r [], fun r => f35H.getD r [], fun r i => ([] : List (Nat × Nat)).contains (r, i)⟩
theorem f35C : compF Go.Proofs.Try.prog f35A 35 = some f35 := by kernel_rfl

/-- slices.Clone[[]int,int] -/
abbrev f36o0 : List (Nat × Pop) := [
  (0, ⟨(some 2), .nilv 3 1, none⟩)]
abbrev f36r0 : Pc := .reg f36o0 [0] [2, 5, 7]
abbrev f36o1 : List (Nat × Pop) := [
  (0, ⟨(some 3), .mv (.tmp 0), none⟩),
  (1, ⟨(some 4), .isnilS false (.tmp 3), none⟩)]
abbrev f36r1 : Pc := .reg f36o1 [0, 4] []
abbrev f36o2 : List (Nat × Pop) := [
  (0, ⟨(some 2), .nilv 3 1, none⟩)]
abbrev f36r2 : Pc := .reg f36o2 [2] []
abbrev f36o3 : List (Nat × Pop) := [
  (0, ⟨(some 5), .bslO 3 1 [], none⟩),
  (1, ⟨(some 6), .mv (.tmp 0), none⟩),
  (2, ⟨(some 7), .app 3 1 8 (.tmp 5) (.tmp 6), none⟩),
  (3, ⟨(some 2), .mv (.tmp 7), none⟩)]
abbrev f36r3 : Pc := .reg f36o3 [2] []
abbrev f36b : Pc := (.seq f36r0 (.seq (.seq f36r1 (.cond (.tmp 4) (.seq f36r2 .ret) .skip)) (.seq f36r3 .ret)))
abbrev f36 : Pfn := ⟨1, 8, [.tmp 2], f36b⟩
def f36K : Array (List Nat) := #[[0], [0, 4], [2], [2]]
def f36H : Array (List Nat) := #[[2, 5, 7], [], [], []]
def f36A : Ann := ⟨fun r => f36K.getD r [], fun r => f36H.getD r [], fun r i => ([(3, 0)] : List (Nat × Nat)).contains (r, i)⟩
theorem f36C : compF Go.Proofs.Try.prog f36A 36 = some f36 := by kernel_rfl

/-- slices.Contains[[]int,int] -/
abbrev f37o0 : List (Nat × Pop) := [
  (0, ⟨(some 4), .mv (.c (.t (.b false))), none⟩)]
abbrev f37r0 : Pc := .reg f37o0 [0, 1] []
abbrev f37o1 : List (Nat × Pop) := [
  (0, ⟨(some 5), .mv (.tmp 0), none⟩),
  (1, ⟨(some 6), .mv (.tmp 1), none⟩),
  (2, ⟨(some 7), .call 50 [(.tmp 5), (.tmp 6)], none⟩),
  (3, ⟨(some 8), .bin .geq (.tmp 7) (.c (.t (.i .i64 0))), none⟩),
  (4, ⟨(some 4), .mv (.tmp 8), none⟩)]
abbrev f37r1 : Pc := .reg f37o1 [4] []
abbrev f37b : Pc := (.seq f37r0 (.seq f37r1 .ret))
abbrev f37 : Pfn := ⟨2, 9, [.tmp 4], f37b⟩
def f37K : Array (List Nat) := #[[0, 1], [4]]
def f37H : Array (List Nat) := #[[], []]
def f37A : Ann := ⟨fun r => f37K.getD r [], fun r => f37H.getD r [], fun r i => ([] : List (Nat × Nat)).contains (r, i)⟩
theorem f37C : compF Go.Proofs.Try.prog f37A 37 = some f37 := by kernel_rfl

/-- switchboard/switchboardref17.Has -/
abbrev f38o0 : List (Nat × Pop) := [
  (0, ⟨(some 4), .mv (.c (.t (.b false))), none⟩)]
abbrev f38r0 : Pc := .reg f38o0 [0, 1] []
abbrev f38o1 : List (Nat × Pop) := [
  (0, ⟨(some 5), .mv (.c (.t (.i .i64 0))), none⟩)]
abbrev f38r1 : Pc := .reg f38o1 [0, 1, 5] []
abbrev f38o2 : List (Nat × Pop) := [
  (0, ⟨(some 6), .mv (.tmp 5), none⟩),
  (1, ⟨(some 7), .mv (.tmp 0), none⟩),
  (2, ⟨(some 8), .lenL (.tmp 7), none⟩),
  (3, ⟨(some 9), .bin .lss (.tmp 6) (.tmp 8), none⟩)]
abbrev f38r2 : Pc := .reg f38o2 [0, 1, 5, 9] []
abbrev f38o4 : List (Nat × Pop) := [
  (0, ⟨(some 12), .mv (.tmp 0), none⟩),
  (1, ⟨(some 13), .mv (.tmp 5), none⟩),
  (2, ⟨(some 14), .ixS 1 (.tmp 12) (.tmp 13), none⟩),
  (3, ⟨(some 15), .load false 1 (.tmp 14), none⟩),
  (4, ⟨(some 16), .mv (.tmp 1), none⟩),
  (5, ⟨(some 17), .bin .eql (.tmp 15) (.tmp 16), none⟩)]
abbrev f38r4 : Pc := .reg f38o4 [0, 1, 5, 17] []
abbrev f38o5 : List (Nat × Pop) := [
  (0, ⟨(some 4), .mv (.c (.t (.b true))), none⟩)]
abbrev f38r5 : Pc := .reg f38o5 [4] []
abbrev f38o3 : List (Nat × Pop) := [
  (0, ⟨(some 10), .mv (.tmp 5), none⟩),
  (1, ⟨(some 11), .bin .add (.tmp 10) (.c (.t (.i .i64 1))), none⟩),
  (2, ⟨(some 5), .mv (.tmp 11), none⟩)]
abbrev f38r3 : Pc := .reg f38o3 [0, 1, 5] []
def f38l0 : Pc := (.seq (.seq f38r2 (.cond (.tmp 9) .skip (.exit 0))) (.seq (.block 1 (.seq f38r4 (.cond (.tmp 17) (.seq f38r5 .ret) .skip))) f38r3))
theorem f38l0e (C : Cfg) (s : St) : evL C f38l0 s = evL C (.seq (.seq f38r2 (.cond (.tmp 9) .skip (.exit 0))) (.seq (.block 1 (.seq f38r4 (.cond (.tmp 17) (.seq f38r5 .ret) .skip))) f38r3)) s := rfl
abbrev f38o6 : List (Nat × Pop) := [
  (0, ⟨(some 4), .mv (.c (.t (.b false))), none⟩)]
abbrev f38r6 : Pc := .reg f38o6 [4] []
abbrev f38b : Pc := (.seq f38r0 (.seq (.seq f38r1 (.block 0 (.loop f38l0))) (.seq f38r6 .ret)))
abbrev f38 : Pfn := ⟨2, 18, [.tmp 4], f38b⟩
def f38K : Array (List Nat) := #[[0, 1], [0, 1, 5], [0, 1, 5, 9], [0, 1, 5], [0, 1, 5, 17], [4], [4]]
def f38H : Array (List Nat) := #[[], [], [], [], [], [], []]
def f38A : Ann := ⟨fun r => f38K.getD r [], fun r => f38H.getD r [], fun r i => ([] : List (Nat × Nat)).contains (r, i)⟩
theorem f38C : compF Go.Proofs.Try.prog f38A 38 = some f38 := by kernel_rfl

/-- switchboard/load.may -/
abbrev f39o0 : List (Nat × Pop) := [
  (0, ⟨(some 2), .box 25 2 (.tmp 0), none⟩),
  (1, ⟨(some 4), .mv (.c (.t (.b false))), none⟩)]
abbrev f39r0 : Pc := .reg f39o0 [1, 2] []
abbrev f39o1 : List (Nat × Pop) := [
  (0, ⟨(some 5), .load true 2 (.tmp 2), none⟩),
  (1, ⟨(some 6), .call 51 [(.tmp 5)], none⟩),
  (2, ⟨(some 7), .mv (.tmp 6), none⟩),
  (3, ⟨(some 8), .mv (.tmp 1), (some (7, true))⟩),
  (4, ⟨(some 9), .bin .geq (.tmp 8) (.c (.t (.i .i64 1))), (some (7, true))⟩),
  (5, ⟨(some 10), .pick (.tmp 7) (.tmp 9) (.c (.t (.b false))), none⟩),
  (6, ⟨(some 11), .mv (.tmp 10), none⟩),
  (7, ⟨(some 12), .mv (.tmp 1), (some (11, true))⟩),
  (8, ⟨(some 13), .bin .leq (.tmp 12) (.c (.t (.i .i64 2147483647))), (some (11, true))⟩),
  (9, ⟨(some 14), .pick (.tmp 11) (.tmp 13) (.c (.t (.b false))), none⟩),
  (10, ⟨(some 4), .mv (.tmp 14), none⟩)]
abbrev f39r1 : Pc := .reg f39o1 [4] [2]
abbrev f39b : Pc := (.seq f39r0 (.seq f39r1 .ret))
abbrev f39 : Pfn := ⟨2, 15, [.tmp 4], f39b⟩
def f39K : Array (List Nat) := #[[1, 2], [4]]
def f39H : Array (List Nat) := #[[], [2]]
def f39A : Ann := ⟨fun r => f39K.getD r [], fun r => f39H.getD r [], fun r i => ([] : List (Nat × Nat)).contains (r, i)⟩
theorem f39C : compF Go.Proofs.Try.prog f39A 39 = some f39 := by kernel_rfl

/-- switchboard/load.lightest -/
abbrev f40o0 : List (Nat × Pop) := [
  (0, ⟨(some 2), .box 25 2 (.tmp 0), none⟩),
  (1, ⟨(some 4), .mv (.c (.t (.i .i64 0))), none⟩)]
abbrev f40r0 : Pc := .reg f40o0 [1, 2] []
abbrev f40o1 : List (Nat × Pop) := [
  (0, ⟨(some 5), .mv (.c (.t (.i .i64 0))), none⟩)]
abbrev f40r1 : Pc := .reg f40o1 [1, 2, 5] []
abbrev f40o2 : List (Nat × Pop) := [
  (0, ⟨(some 6), .mv (.c (.t (.i .i64 1))), none⟩)]
abbrev f40r2 : Pc := .reg f40o2 [1, 2, 5, 6] []
abbrev f40o3 : List (Nat × Pop) := [
  (0, ⟨(some 7), .mv (.tmp 6), none⟩),
  (1, ⟨(some 8), .bin .leq (.tmp 7) (.c (.t (.i .i64 4))), none⟩)]
abbrev f40r3 : Pc := .reg f40o3 [1, 2, 5, 6, 8] []
abbrev f40o5 : List (Nat × Pop) := [
  (0, ⟨(some 11), .load true 2 (.tmp 2), none⟩),
  (1, ⟨(some 12), .mv (.tmp 1), none⟩),
  (2, ⟨(some 13), .mv (.tmp 6), none⟩),
  (3, ⟨(some 14), .call 46 [(.tmp 11), (.tmp 12), (.tmp 13)], none⟩)]
abbrev f40r5 : Pc := .reg f40o5 [1, 2, 5, 6, 14] []
abbrev f40o6 : List (Nat × Pop) := [
  (0, ⟨(some 15), .mv (.tmp 5), none⟩),
  (1, ⟨(some 16), .bin .eql (.tmp 15) (.c (.t (.i .i64 0))), none⟩),
  (2, ⟨(some 17), .mv (.tmp 16), none⟩),
  (3, ⟨(some 18), .load true 2 (.tmp 2), (some (17, false))⟩),
  (4, ⟨(some 19), .mv (.tmp 6), (some (17, false))⟩),
  (5, ⟨(some 20), .callq 21 [(.tmp 18), (.tmp 19)], (some (17, false))⟩),
  (6, ⟨(some 21), .load true 2 (.tmp 2), (some (17, false))⟩),
  (7, ⟨(some 22), .mv (.tmp 5), (some (17, false))⟩),
  (8, ⟨(some 23), .callq 21 [(.tmp 21), (.tmp 22)], (some (17, false))⟩),
  (9, ⟨(some 24), .bin .lss (.tmp 20) (.tmp 23), (some (17, false))⟩),
  (10, ⟨(some 25), .pick (.tmp 17) (.c (.t (.b true))) (.tmp 24), none⟩)]
abbrev f40r6 : Pc := .reg f40o6 [1, 2, 5, 6, 25] []
abbrev f40o7 : List (Nat × Pop) := [
  (0, ⟨(some 26), .mv (.tmp 6), none⟩),
  (1, ⟨(some 5), .mv (.tmp 26), none⟩)]
abbrev f40r7 : Pc := .reg f40o7 [1, 2, 5, 6] []
abbrev f40o4 : List (Nat × Pop) := [
  (0, ⟨(some 9), .mv (.tmp 6), none⟩),
  (1, ⟨(some 10), .bin .add (.tmp 9) (.c (.t (.i .i64 1))), none⟩),
  (2, ⟨(some 6), .mv (.tmp 10), none⟩)]
abbrev f40r4 : Pc := .reg f40o4 [1, 2, 5, 6] []
def f40l0 : Pc := (.seq (.seq f40r3 (.cond (.tmp 8) .skip (.exit 0))) (.seq (.block 1 (.seq (.seq f40r5 (.cond (.tmp 14) (.exit 1) .skip)) (.seq f40r6 (.cond (.tmp 25) f40r7 .skip)))) f40r4))
theorem f40l0e (C : Cfg) (s : St) : evL C f40l0 s = evL C (.seq (.seq f40r3 (.cond (.tmp 8) .skip (.exit 0))) (.seq (.block 1 (.seq (.seq f40r5 (.cond (.tmp 14) (.exit 1) .skip)) (.seq f40r6 (.cond (.tmp 25) f40r7 .skip)))) f40r4)) s := rfl
abbrev f40o8 : List (Nat × Pop) := [
  (0, ⟨(some 27), .mv (.tmp 5), none⟩),
  (1, ⟨(some 4), .mv (.tmp 27), none⟩)]
abbrev f40r8 : Pc := .reg f40o8 [4] [2]
abbrev f40b : Pc := (.seq f40r0 (.seq f40r1 (.seq (.seq f40r2 (.block 0 (.loop f40l0))) (.seq f40r8 .ret))))
abbrev f40 : Pfn := ⟨2, 28, [.tmp 4], f40b⟩
def f40K : Array (List Nat) := #[[1, 2], [1, 2, 5], [1, 2, 5, 6], [1, 2, 5, 6, 8], [1, 2, 5, 6], [1, 2, 5, 6, 14], [1, 2, 5, 6, 25], [1, 2, 5, 6], [4]]
def f40H : Array (List Nat) := #[[], [], [], [], [], [], [], [], [2]]
def f40A : Ann := ⟨fun r => f40K.getD r [], fun r => f40H.getD r [], fun r i => ([] : List (Nat × Nat)).contains (r, i)⟩
theorem f40C : compF Go.Proofs.Try.prog f40A 40 = some f40 := by kernel_rfl

/-- switchboard/switchboardref21.hot -/
abbrev f41o0 : List (Nat × Pop) := [
  (0, ⟨(some 5), .box 33 2 (.tmp 1), none⟩),
  (1, ⟨(some 8), .mv (.c (.t (.b false))), none⟩)]
abbrev f41r0 : Pc := .reg f41o0 [0, 2, 3, 5] []
abbrev f41o1 : List (Nat × Pop) := [
  (0, ⟨(some 9), .mv (.tmp 0), none⟩),
  (1, ⟨(some 10), .mv (.tmp 3), none⟩),
  (2, ⟨(some 11), .callq 18 [(.tmp 9), (.tmp 10)], none⟩),
  (3, ⟨(some 12), .mv (.tmp 2), none⟩),
  (4, ⟨(some 13), .fad 1 (.tmp 5), none⟩),
  (5, ⟨(some 14), .load false 1 (.tmp 13), none⟩),
  (6, ⟨(some 15), .mv (.tmp 3), none⟩),
  (7, ⟨(some 16), .ixS 1 (.tmp 14) (.tmp 15), none⟩),
  (8, ⟨(some 17), .load false 1 (.tmp 16), none⟩),
  (9, ⟨(some 18), .lenL (.tmp 17), none⟩),
  (10, ⟨(some 19), .bin .mul (.tmp 12) (.tmp 18), none⟩),
  (11, ⟨(some 20), .bin .gtr (.tmp 11) (.tmp 19), none⟩),
  (12, ⟨(some 21), .mv (.tmp 20), none⟩),
  (13, ⟨(some 22), .load true 2 (.tmp 5), (some (21, true))⟩),
  (14, ⟨(some 23), .mv (.tmp 3), (some (21, true))⟩),
  (15, ⟨(some 24), .callq 42 [(.tmp 22), (.tmp 23)], (some (21, true))⟩),
  (16, ⟨(some 25), .bin .gtr (.tmp 24) (.c (.t (.i .i64 0))), (some (21, true))⟩),
  (17, ⟨(some 26), .pick (.tmp 21) (.tmp 25) (.c (.t (.b false))), none⟩),
  (18, ⟨(some 8), .mv (.tmp 26), none⟩)]
abbrev f41r1 : Pc := .reg f41o1 [8] [5]
abbrev f41b : Pc := (.seq f41r0 (.seq f41r1 .ret))
abbrev f41 : Pfn := ⟨4, 27, [.tmp 8], f41b⟩
def f41K : Array (List Nat) := #[[0, 2, 3, 5], [8]]
def f41H : Array (List Nat) := #[[], [5]]
def f41A : Ann := ⟨fun r => f41K.getD r [], fun r => f41H.getD r [], fun r i => ([] : List (Nat × Nat)).contains (r, i)⟩
theorem f41C : compF Go.Proofs.Try.prog f41A 41 = some f41 := by kernel_rfl

/-- switchboard/switchboardref21.node -/
abbrev f42o0 : List (Nat × Pop) := [
  (0, ⟨(some 2), .box 33 2 (.tmp 0), none⟩),
  (1, ⟨(some 4), .mv (.c (.t (.i .i64 0))), none⟩)]
abbrev f42r0 : Pc := .reg f42o0 [1, 2] []
abbrev f42o1 : List (Nat × Pop) := [
  (0, ⟨(some 5), .mv (.c (.t (.i .i64 0))), none⟩)]
abbrev f42r1 : Pc := .reg f42o1 [1, 2, 5] []
abbrev f42o2 : List (Nat × Pop) := [
  (0, ⟨(some 7), .mv (.tmp 5), none⟩),
  (1, ⟨(some 8), .bin .lss (.tmp 7) (.c (.t (.i .i64 9))), none⟩)]
abbrev f42r2 : Pc := .reg f42o2 [1, 2, 5, 8] []
abbrev f42o4 : List (Nat × Pop) := [
  (0, ⟨(some 6), .mv (.c (.t (.i .i64 1))), none⟩)]
abbrev f42r4 : Pc := .reg f42o4 [1, 2, 5, 6] []
abbrev f42o5 : List (Nat × Pop) := [
  (0, ⟨(some 11), .mv (.tmp 6), none⟩),
  (1, ⟨(some 12), .bin .lss (.tmp 11) (.c (.t (.i .i64 5))), none⟩)]
abbrev f42r5 : Pc := .reg f42o5 [1, 2, 5, 6, 12] []
abbrev f42o7 : List (Nat × Pop) := [
  (0, ⟨(some 15), .fad 1 (.tmp 2), none⟩),
  (1, ⟨(some 16), .load false 1 (.tmp 15), none⟩),
  (2, ⟨(some 17), .mv (.tmp 1), none⟩),
  (3, ⟨(some 18), .ixS 1 (.tmp 16) (.tmp 17), none⟩),
  (4, ⟨(some 19), .load false 1 (.tmp 18), none⟩),
  (5, ⟨(some 20), .mv (.tmp 6), none⟩),
  (6, ⟨(some 21), .call 38 [(.tmp 19), (.tmp 20)], none⟩),
  (7, ⟨(some 22), .un .not (.tmp 21), none⟩),
  (8, ⟨(some 23), .mv (.tmp 22), none⟩),
  (9, ⟨(some 24), .load true 2 (.tmp 2), (some (23, true))⟩),
  (10, ⟨(some 25), .mv (.tmp 6), (some (23, true))⟩),
  (11, ⟨(some 26), .call 22 [(.tmp 24), (.tmp 25)], (some (23, true))⟩),
  (12, ⟨(some 27), .mv (.tmp 5), (some (23, true))⟩),
  (13, ⟨(some 28), .bin .eql (.tmp 26) (.tmp 27), (some (23, true))⟩),
  (14, ⟨(some 29), .pick (.tmp 23) (.tmp 28) (.c (.t (.b false))), none⟩)]
abbrev f42r7 : Pc := .reg f42o7 [1, 2, 5, 6, 29] []
abbrev f42o8 : List (Nat × Pop) := [
  (0, ⟨(some 30), .mv (.tmp 6), none⟩),
  (1, ⟨(some 4), .mv (.tmp 30), none⟩)]
abbrev f42r8 : Pc := .reg f42o8 [4] [2]
abbrev f42o6 : List (Nat × Pop) := [
  (0, ⟨(some 13), .mv (.tmp 6), none⟩),
  (1, ⟨(some 14), .bin .add (.tmp 13) (.c (.t (.i .i64 1))), none⟩),
  (2, ⟨(some 6), .mv (.tmp 14), none⟩)]
abbrev f42r6 : Pc := .reg f42o6 [1, 2, 5, 6] []
def f42l0 : Pc := (.seq (.seq f42r5 (.cond (.tmp 12) .skip (.exit 2))) (.seq (.block 3 (.seq f42r7 (.cond (.tmp 29) (.seq f42r8 .ret) .skip))) f42r6))
theorem f42l0e (C : Cfg) (s : St) : evL C f42l0 s = evL C (.seq (.seq f42r5 (.cond (.tmp 12) .skip (.exit 2))) (.seq (.block 3 (.seq f42r7 (.cond (.tmp 29) (.seq f42r8 .ret) .skip))) f42r6)) s := rfl
abbrev f42o3 : List (Nat × Pop) := [
  (0, ⟨(some 9), .mv (.tmp 5), none⟩),
  (1, ⟨(some 10), .bin .add (.tmp 9) (.c (.t (.i .i64 1))), none⟩),
  (2, ⟨(some 5), .mv (.tmp 10), none⟩)]
abbrev f42r3 : Pc := .reg f42o3 [1, 2, 5] []
def f42l1 : Pc := (.seq (.seq f42r2 (.cond (.tmp 8) .skip (.exit 0))) (.seq (.block 1 (.seq f42r4 (.block 2 (.loop f42l0)))) f42r3))
theorem f42l1e (C : Cfg) (s : St) : evL C f42l1 s = evL C (.seq (.seq f42r2 (.cond (.tmp 8) .skip (.exit 0))) (.seq (.block 1 (.seq f42r4 (.block 2 (.loop f42l0)))) f42r3)) s := rfl
abbrev f42o9 : List (Nat × Pop) := [
  (0, ⟨(some 4), .mv (.c (.t (.i .i64 0))), none⟩)]
abbrev f42r9 : Pc := .reg f42o9 [4] [2]
abbrev f42b : Pc := (.seq f42r0 (.seq (.seq f42r1 (.block 0 (.loop f42l1))) (.seq f42r9 .ret)))
abbrev f42 : Pfn := ⟨2, 31, [.tmp 4], f42b⟩
def f42K : Array (List Nat) := #[[1, 2], [1, 2, 5], [1, 2, 5, 8], [1, 2, 5], [1, 2, 5, 6], [1, 2, 5, 6, 12], [1, 2, 5, 6], [1, 2, 5, 6, 29], [4], [4]]
def f42H : Array (List Nat) := #[[], [], [], [], [], [], [], [], [2], [2]]
def f42A : Ann := ⟨fun r => f42K.getD r [], fun r => f42H.getD r [], fun r i => ([] : List (Nat × Nat)).contains (r, i)⟩
theorem f42C : compF Go.Proofs.Try.prog f42A 42 = some f42 := by kernel_rfl

/-- switchboard/switchboardref21.cold -/
abbrev f43o0 : List (Nat × Pop) := [
  (0, ⟨(some 5), .box 33 2 (.tmp 1), none⟩),
  (1, ⟨(some 8), .mv (.c (.t (.b false))), none⟩)]
abbrev f43r0 : Pc := .reg f43o0 [0, 2, 3, 5] []
abbrev f43o1 : List (Nat × Pop) := [
  (0, ⟨(some 10), .fad 1 (.tmp 5), none⟩),
  (1, ⟨(some 11), .load false 1 (.tmp 10), none⟩),
  (2, ⟨(some 12), .mv (.tmp 3), none⟩),
  (3, ⟨(some 13), .ixS 1 (.tmp 11) (.tmp 12), none⟩),
  (4, ⟨(some 14), .load false 1 (.tmp 13), none⟩),
  (5, ⟨(some 15), .lenL (.tmp 14), none⟩),
  (6, ⟨(some 9), .mv (.tmp 15), none⟩)]
abbrev f43r1 : Pc := .reg f43o1 [0, 2, 3, 9] [5]
abbrev f43o2 : List (Nat × Pop) := [
  (0, ⟨(some 16), .mv (.tmp 9), none⟩),
  (1, ⟨(some 17), .bin .gtr (.tmp 16) (.c (.t (.i .i64 1))), none⟩),
  (2, ⟨(some 18), .mv (.tmp 17), none⟩),
  (3, ⟨(some 19), .mv (.tmp 0), (some (18, true))⟩),
  (4, ⟨(some 20), .mv (.tmp 3), (some (18, true))⟩),
  (5, ⟨(some 21), .call 18 [(.tmp 19), (.tmp 20)], (some (18, true))⟩),
  (6, ⟨(some 22), .mv (.tmp 2), (some (18, true))⟩),
  (7, ⟨(some 23), .mv (.tmp 9), (some (18, true))⟩),
  (8, ⟨(some 24), .bin .sub (.tmp 23) (.c (.t (.i .i64 1))), (some (18, true))⟩),
  (9, ⟨(some 25), .bin .mul (.tmp 22) (.tmp 24), (some (18, true))⟩),
  (10, ⟨(some 26), .bin .lss (.tmp 21) (.tmp 25), (some (18, true))⟩),
  (11, ⟨(some 27), .pick (.tmp 18) (.tmp 26) (.c (.t (.b false))), none⟩),
  (12, ⟨(some 8), .mv (.tmp 27), none⟩)]
abbrev f43r2 : Pc := .reg f43o2 [8] []
abbrev f43b : Pc := (.seq f43r0 (.seq f43r1 (.seq f43r2 .ret)))
abbrev f43 : Pfn := ⟨4, 28, [.tmp 8], f43b⟩
def f43K : Array (List Nat) := #[[0, 2, 3, 5], [0, 2, 3, 9], [8]]
def f43H : Array (List Nat) := #[[], [5], []]
def f43A : Ann := ⟨fun r => f43K.getD r [], fun r => f43H.getD r [], fun r i => ([] : List (Nat × Nat)).contains (r, i)⟩
theorem f43C : compF Go.Proofs.Try.prog f43A 43 = some f43 := by kernel_rfl

/-- switchboard/place.may -/
abbrev f45o0 : List (Nat × Pop) := [
  (0, ⟨(some 3), .box 25 2 (.tmp 0), none⟩),
  (1, ⟨(some 6), .mv (.c (.t (.b false))), none⟩)]
abbrev f45r0 : Pc := .reg f45o0 [1, 2, 3] []
abbrev f45o1 : List (Nat × Pop) := [
  (0, ⟨(some 7), .load true 2 (.tmp 3), none⟩),
  (1, ⟨(some 8), .call 51 [(.tmp 7)], none⟩),
  (2, ⟨(some 9), .mv (.tmp 8), none⟩),
  (3, ⟨(some 10), .mv (.tmp 1), (some (9, true))⟩),
  (4, ⟨(some 11), .bin .geq (.tmp 10) (.c (.t (.i .i64 0))), (some (9, true))⟩),
  (5, ⟨(some 12), .pick (.tmp 9) (.tmp 11) (.c (.t (.b false))), none⟩),
  (6, ⟨(some 13), .mv (.tmp 12), none⟩),
  (7, ⟨(some 14), .mv (.tmp 1), (some (13, true))⟩),
  (8, ⟨(some 15), .fad 1 (.tmp 3), (some (13, true))⟩),
  (9, ⟨(some 16), .load false 1 (.tmp 15), (some (13, true))⟩),
  (10, ⟨(some 17), .lenL (.tmp 16), (some (13, true))⟩),
  (11, ⟨(some 18), .bin .lss (.tmp 14) (.tmp 17), (some (13, true))⟩),
  (12, ⟨(some 19), .pick (.tmp 13) (.tmp 18) (.c (.t (.b false))), none⟩),
  (13, ⟨(some 20), .mv (.tmp 19), none⟩),
  (14, ⟨(some 21), .mv (.tmp 2), (some (20, true))⟩),
  (15, ⟨(some 22), .bin .geq (.tmp 21) (.c (.t (.i .i64 1))), (some (20, true))⟩),
  (16, ⟨(some 23), .pick (.tmp 20) (.tmp 22) (.c (.t (.b false))), none⟩),
  (17, ⟨(some 24), .mv (.tmp 23), none⟩),
  (18, ⟨(some 25), .mv (.tmp 2), (some (24, true))⟩),
  (19, ⟨(some 26), .bin .leq (.tmp 25) (.c (.t (.i .i64 4))), (some (24, true))⟩),
  (20, ⟨(some 27), .pick (.tmp 24) (.tmp 26) (.c (.t (.b false))), none⟩),
  (21, ⟨(some 28), .mv (.tmp 27), none⟩),
  (22, ⟨(some 29), .fad 0 (.tmp 3), (some (28, true))⟩),
  (23, ⟨(some 30), .load false 1 (.tmp 29), (some (28, true))⟩),
  (24, ⟨(some 31), .bin .lss (.tmp 30) (.c (.t (.i .i64 2147483647))), (some (28, true))⟩),
  (25, ⟨(some 32), .pick (.tmp 28) (.tmp 31) (.c (.t (.b false))), none⟩),
  (26, ⟨(some 6), .mv (.tmp 32), none⟩)]
abbrev f45r1 : Pc := .reg f45o1 [6] [3]
abbrev f45b : Pc := (.seq f45r0 (.seq f45r1 .ret))
abbrev f45 : Pfn := ⟨3, 33, [.tmp 6], f45b⟩
def f45K : Array (List Nat) := #[[1, 2, 3], [6]]
def f45H : Array (List Nat) := #[[], [3]]
def f45A : Ann := ⟨fun r => f45K.getD r [], fun r => f45H.getD r [], fun r i => ([] : List (Nat × Nat)).contains (r, i)⟩
theorem f45C : compF Go.Proofs.Try.prog f45A 45 = some f45 := by kernel_rfl

/-- switchboard/place.Holds -/
abbrev f46o0 : List (Nat × Pop) := [
  (0, ⟨(some 3), .box 25 2 (.tmp 0), none⟩),
  (1, ⟨(some 6), .mv (.c (.t (.b false))), none⟩)]
abbrev f46r0 : Pc := .reg f46o0 [1, 2, 3] []
abbrev f46o1 : List (Nat × Pop) := [
  (0, ⟨(some 7), .mv (.tmp 1), none⟩),
  (1, ⟨(some 8), .bin .geq (.tmp 7) (.c (.t (.i .i64 0))), none⟩),
  (2, ⟨(some 9), .mv (.tmp 8), none⟩),
  (3, ⟨(some 10), .mv (.tmp 1), (some (9, true))⟩),
  (4, ⟨(some 11), .fad 1 (.tmp 3), (some (9, true))⟩),
  (5, ⟨(some 12), .load false 1 (.tmp 11), (some (9, true))⟩),
  (6, ⟨(some 13), .lenL (.tmp 12), (some (9, true))⟩),
  (7, ⟨(some 14), .bin .lss (.tmp 10) (.tmp 13), (some (9, true))⟩),
  (8, ⟨(some 15), .pick (.tmp 9) (.tmp 14) (.c (.t (.b false))), none⟩),
  (9, ⟨(some 16), .mv (.tmp 15), none⟩),
  (10, ⟨(some 17), .fad 1 (.tmp 3), (some (16, true))⟩),
  (11, ⟨(some 18), .load false 1 (.tmp 17), (some (16, true))⟩),
  (12, ⟨(some 19), .mv (.tmp 1), (some (16, true))⟩),
  (13, ⟨(some 20), .ixS 1 (.tmp 18) (.tmp 19), (some (16, true))⟩),
  (14, ⟨(some 21), .load false 1 (.tmp 20), (some (16, true))⟩),
  (15, ⟨(some 22), .mv (.tmp 2), (some (16, true))⟩),
  (16, ⟨(some 23), .call 37 [(.tmp 21), (.tmp 22)], (some (16, true))⟩),
  (17, ⟨(some 24), .pick (.tmp 16) (.tmp 23) (.c (.t (.b false))), none⟩),
  (18, ⟨(some 6), .mv (.tmp 24), none⟩)]
abbrev f46r1 : Pc := .reg f46o1 [6] [3]
abbrev f46b : Pc := (.seq f46r0 (.seq f46r1 .ret))
abbrev f46 : Pfn := ⟨3, 25, [.tmp 6], f46b⟩
def f46K : Array (List Nat) := #[[1, 2, 3], [6]]
def f46H : Array (List Nat) := #[[], [3]]
def f46A : Ann := ⟨fun r => f46K.getD r [], fun r => f46H.getD r [], fun r i => ([] : List (Nat × Nat)).contains (r, i)⟩
theorem f46C : compF Go.Proofs.Try.prog f46A 46 = some f46 := by kernel_rfl

/-- switchboard/place.turned -/
abbrev f47o0 : List (Nat × Pop) := [
  (0, ⟨(some 3), .box 25 2 (.tmp 0), none⟩),
  (1, ⟨(some 6), .alloc 25 [(.t (.i .i64 0)), .nl], none⟩)]
abbrev f47r0 : Pc := .reg f47o0 [1, 2, 3, 6] []
abbrev f47o1 : List (Nat × Pop) := [
  (0, ⟨(some 8), .fad 0 (.tmp 3), none⟩),
  (1, ⟨(some 9), .load false 1 (.tmp 8), none⟩),
  (2, ⟨(some 10), .bin .add (.tmp 9) (.c (.t (.i .i64 1))), none⟩),
  (3, ⟨(some 11), .fad 1 (.tmp 3), none⟩),
  (4, ⟨(some 12), .load false 1 (.tmp 11), none⟩),
  (5, ⟨(some 13), .callq 54 [(.tmp 12)], none⟩),
  (6, ⟨(some 14), .build [(.t (.i .i64 0)), .nl] [(0, 1, (.tmp 10)), (1, 1, (.tmp 13))], none⟩),
  (7, ⟨(some 7), .alloc 25 [(.t (.i .i64 0)), .nl], none⟩),
  (8, ⟨none, .store 2 (.tmp 7) (.tmp 14), none⟩)]
abbrev f47r1 : Pc := .reg f47o1 [1, 2, 6, 7] [3]
abbrev f47o2 : List (Nat × Pop) := [
  (0, ⟨(some 15), .fad 1 (.tmp 7), none⟩),
  (1, ⟨(some 16), .load false 1 (.tmp 15), none⟩),
  (2, ⟨(some 17), .mv (.tmp 1), none⟩),
  (3, ⟨(some 18), .mv (.tmp 2), none⟩),
  (4, ⟨(some 19), .ixS 1 (.tmp 16) (.tmp 17), none⟩),
  (5, ⟨none, .store 1 (.tmp 19) (.tmp 18), none⟩)]
abbrev f47r2 : Pc := .reg f47o2 [6, 7] []
abbrev f47o3 : List (Nat × Pop) := [
  (0, ⟨(some 20), .load true 2 (.tmp 7), none⟩),
  (1, ⟨none, .store 2 (.tmp 6) (.tmp 20), none⟩)]
abbrev f47r3 : Pc := .reg f47o3 [6] [7]
abbrev f47b : Pc := (.seq f47r0 (.seq f47r1 (.seq f47r2 (.seq f47r3 .ret))))
abbrev f47 : Pfn := ⟨3, 21, [.cell 6 true 2], f47b⟩
def f47K : Array (List Nat) := #[[1, 2, 3, 6], [1, 2, 6, 7], [6, 7], [6]]
def f47H : Array (List Nat) := #[[], [3], [], [7]]
def f47A : Ann := ⟨fun r => f47K.getD r [], fun r => f47H.getD r [], fun r i => ([] : List (Nat × Nat)).contains (r, i)⟩
theorem f47C : compF Go.Proofs.Try.prog f47A 47 = some f47 := by kernel_rfl

/-- slices.DeleteFunc[[]int,int] -/
abbrev f48o0 : List (Nat × Pop) := [
  (0, ⟨(some 4), .nilv 3 1, none⟩)]
abbrev f48r0 : Pc := .reg f48o0 [0, 1] [4]
abbrev f48o1 : List (Nat × Pop) := [
  (0, ⟨(some 8), .mv (.tmp 0), none⟩),
  (1, ⟨(some 9), .mv (.tmp 1), none⟩),
  (2, ⟨(some 10), .call 55 [(.tmp 8), (.tmp 9)], none⟩),
  (3, ⟨(some 5), .mv (.tmp 10), none⟩)]
abbrev f48r1 : Pc := .reg f48o1 [0, 1, 5] []
abbrev f48o2 : List (Nat × Pop) := [
  (0, ⟨(some 11), .mv (.tmp 5), none⟩),
  (1, ⟨(some 12), .bin .eql (.tmp 11) (.c (.t (.i .i64 (-1)))), none⟩)]
abbrev f48r2 : Pc := .reg f48o2 [0, 1, 5, 12] []
abbrev f48o3 : List (Nat × Pop) := [
  (0, ⟨(some 13), .mv (.tmp 0), none⟩),
  (1, ⟨(some 4), .mv (.tmp 13), none⟩)]
abbrev f48r3 : Pc := .reg f48o3 [4] []
abbrev f48o4 : List (Nat × Pop) := [
  (0, ⟨(some 14), .mv (.tmp 5), none⟩),
  (1, ⟨(some 15), .bin .add (.tmp 14) (.c (.t (.i .i64 1))), none⟩),
  (2, ⟨(some 6), .mv (.tmp 15), none⟩)]
abbrev f48r4 : Pc := .reg f48o4 [0, 1, 5, 6] []
abbrev f48o5 : List (Nat × Pop) := [
  (0, ⟨(some 16), .mv (.tmp 6), none⟩),
  (1, ⟨(some 17), .mv (.tmp 0), none⟩),
  (2, ⟨(some 18), .lenL (.tmp 17), none⟩),
  (3, ⟨(some 19), .bin .lss (.tmp 16) (.tmp 18), none⟩)]
abbrev f48r5 : Pc := .reg f48o5 [0, 1, 5, 6, 19] []
abbrev f48o7 : List (Nat × Pop) := [
  (0, ⟨(some 22), .mv (.tmp 0), none⟩),
  (1, ⟨(some 23), .mv (.tmp 6), none⟩),
  (2, ⟨(some 24), .ixS 1 (.tmp 22) (.tmp 23), none⟩),
  (3, ⟨(some 25), .load false 1 (.tmp 24), none⟩),
  (4, ⟨(some 7), .mv (.tmp 25), none⟩)]
abbrev f48r7 : Pc := .reg f48o7 [0, 1, 5, 6, 7] []
abbrev f48o8 : List (Nat × Pop) := [
  (0, ⟨(some 26), .mv (.tmp 1), none⟩),
  (1, ⟨(some 27), .mv (.tmp 7), none⟩),
  (2, ⟨(some 28), .callv (.tmp 26) [(.tmp 27)], none⟩),
  (3, ⟨(some 29), .un .not (.tmp 28), none⟩)]
abbrev f48r8 : Pc := .reg f48o8 [0, 1, 5, 6, 7, 29] []
abbrev f48o9 : List (Nat × Pop) := [
  (0, ⟨(some 30), .mv (.tmp 0), none⟩),
  (1, ⟨(some 31), .mv (.tmp 5), none⟩),
  (2, ⟨(some 32), .mv (.tmp 7), none⟩),
  (3, ⟨(some 33), .ixS 1 (.tmp 30) (.tmp 31), none⟩),
  (4, ⟨none, .store 1 (.tmp 33) (.tmp 32), none⟩)]
abbrev f48r9 : Pc := .reg f48o9 [0, 1, 5, 6] []
abbrev f48o10 : List (Nat × Pop) := [
  (0, ⟨(some 34), .mv (.tmp 5), none⟩),
  (1, ⟨(some 35), .bin .add (.tmp 34) (.c (.t (.i .i64 1))), none⟩),
  (2, ⟨(some 5), .mv (.tmp 35), none⟩)]
abbrev f48r10 : Pc := .reg f48o10 [0, 1, 5, 6] []
abbrev f48o6 : List (Nat × Pop) := [
  (0, ⟨(some 20), .mv (.tmp 6), none⟩),
  (1, ⟨(some 21), .bin .add (.tmp 20) (.c (.t (.i .i64 1))), none⟩),
  (2, ⟨(some 6), .mv (.tmp 21), none⟩)]
abbrev f48r6 : Pc := .reg f48o6 [0, 1, 5, 6] []
def f48l0 : Pc := (.seq (.seq f48r5 (.cond (.tmp 19) .skip (.exit 0))) (.seq (.block 1 (.seq f48r7 (.seq f48r8 (.cond (.tmp 29) (.seq f48r9 f48r10) .skip)))) f48r6))
theorem f48l0e (C : Cfg) (s : St) : evL C f48l0 s = evL C (.seq (.seq f48r5 (.cond (.tmp 19) .skip (.exit 0))) (.seq (.block 1 (.seq f48r7 (.seq f48r8 (.cond (.tmp 29) (.seq f48r9 f48r10) .skip)))) f48r6)) s := rfl
abbrev f48o11 : List (Nat × Pop) := [
  (0, ⟨(some 36), .mv (.tmp 0), none⟩),
  (1, ⟨(some 37), .mv (.tmp 5), none⟩),
  (2, ⟨(some 38), .sls 1 (.tmp 36) (some (.tmp 37)) none, none⟩),
  (3, ⟨none, .clr 1 (.tmp 38), none⟩)]
abbrev f48r11 : Pc := .reg f48o11 [0, 5] []
abbrev f48o12 : List (Nat × Pop) := [
  (0, ⟨(some 39), .mv (.tmp 0), none⟩),
  (1, ⟨(some 40), .mv (.tmp 5), none⟩),
  (2, ⟨(some 41), .sls 1 (.tmp 39) none (some (.tmp 40)), none⟩),
  (3, ⟨(some 4), .mv (.tmp 41), none⟩)]
abbrev f48r12 : Pc := .reg f48o12 [4] []
abbrev f48b : Pc := (.seq f48r0 (.seq f48r1 (.seq (.seq f48r2 (.cond (.tmp 12) (.seq f48r3 .ret) .skip)) (.seq (.seq f48r4 (.block 0 (.loop f48l0))) (.seq f48r11 (.seq f48r12 .ret))))))
abbrev f48 : Pfn := ⟨2, 42, [.tmp 4], f48b⟩
def f48K : Array (List Nat) := #[[0, 1], [0, 1, 5], [0, 1, 5, 12], [4], [0, 1, 5, 6], [0, 1, 5, 6, 19], [0, 1, 5, 6], [0, 1, 5, 6, 7], [0, 1, 5, 6, 7, 29], [0, 1, 5, 6], [0, 1, 5, 6], [0, 5], [4]]
def f48H : Array (List Nat) := #[[4], [], [], [], [], [], [], [], [], [], [], [], []]
def f48A : Ann := ⟨fun r => f48K.getD r [], fun r => f48H.getD r [], fun r i => ([] : List (Nat × Nat)).contains (r, i)⟩
theorem f48C : compF Go.Proofs.Try.prog f48A 48 = some f48 := by kernel_rfl

/-- switchboard/place.Retire$1 -/
abbrev f49o0 : List (Nat × Pop) := [
  (0, ⟨(some 3), .mv (.c (.t (.b false))), none⟩)]
abbrev f49r0 : Pc := .reg f49o0 [0, 1] []
abbrev f49o1 : List (Nat × Pop) := [
  (0, ⟨(some 4), .mv (.tmp 0), none⟩),
  (1, ⟨(some 5), .load false 1 (.tmp 1), none⟩),
  (2, ⟨(some 6), .bin .eql (.tmp 4) (.tmp 5), none⟩),
  (3, ⟨(some 3), .mv (.tmp 6), none⟩)]
abbrev f49r1 : Pc := .reg f49o1 [3] []
abbrev f49b : Pc := (.seq f49r0 (.seq f49r1 .ret))
abbrev f49 : Pfn := ⟨2, 7, [.tmp 3], f49b⟩
def f49K : Array (List Nat) := #[[0, 1], [3]]
def f49H : Array (List Nat) := #[[], []]
def f49A : Ann := ⟨fun r => f49K.getD r [], fun r => f49H.getD r [], fun r i => ([] : List (Nat × Nat)).contains (r, i)⟩
theorem f49C : compF Go.Proofs.Try.prog f49A 49 = some f49 := by kernel_rfl

/-- slices.Index[[]int,int] -/
abbrev f50o0 : List (Nat × Pop) := [
  (0, ⟨(some 4), .mv (.c (.t (.i .i64 0))), none⟩)]
abbrev f50r0 : Pc := .reg f50o0 [0, 1] []
abbrev f50o1 : List (Nat × Pop) := [
  (0, ⟨(some 6), .mv (.tmp 0), none⟩),
  (1, ⟨(some 7), .lenL (.tmp 6), none⟩),
  (2, ⟨(some 8), .mv (.c (.t (.i .i64 0))), none⟩)]
abbrev f50r1 : Pc := .reg f50o1 [0, 1, 7, 8] []
abbrev f50o2 : List (Nat × Pop) := [
  (0, ⟨(some 9), .bin .lss (.tmp 8) (.tmp 7), none⟩)]
abbrev f50r2 : Pc := .reg f50o2 [0, 1, 7, 8, 9] []
abbrev f50o3 : List (Nat × Pop) := [
  (0, ⟨(some 10), .mv (.tmp 8), none⟩),
  (1, ⟨(some 5), .mv (.tmp 10), none⟩)]
abbrev f50r3 : Pc := .reg f50o3 [0, 1, 5, 7, 8] []
abbrev f50o4 : List (Nat × Pop) := [
  (0, ⟨(some 11), .mv (.tmp 1), none⟩),
  (1, ⟨(some 12), .mv (.tmp 0), none⟩),
  (2, ⟨(some 13), .mv (.tmp 5), none⟩),
  (3, ⟨(some 14), .ixS 1 (.tmp 12) (.tmp 13), none⟩),
  (4, ⟨(some 15), .load false 1 (.tmp 14), none⟩),
  (5, ⟨(some 16), .bin .eql (.tmp 11) (.tmp 15), none⟩)]
abbrev f50r4 : Pc := .reg f50o4 [0, 1, 5, 7, 8, 16] []
abbrev f50o5 : List (Nat × Pop) := [
  (0, ⟨(some 17), .mv (.tmp 5), none⟩),
  (1, ⟨(some 4), .mv (.tmp 17), none⟩)]
abbrev f50r5 : Pc := .reg f50o5 [4] []
abbrev f50o6 : List (Nat × Pop) := [
  (0, ⟨(some 18), .bin .add (.tmp 8) (.c (.t (.i .i64 1))), none⟩),
  (1, ⟨(some 8), .mv (.tmp 18), none⟩)]
abbrev f50r6 : Pc := .reg f50o6 [0, 1, 7, 8] []
def f50l0 : Pc := (.seq f50r2 (.seq (.cond (.tmp 9) .skip (.exit 0)) (.seq (.block 1 (.seq f50r3 (.seq f50r4 (.cond (.tmp 16) (.seq f50r5 .ret) .skip)))) f50r6)))
theorem f50l0e (C : Cfg) (s : St) : evL C f50l0 s = evL C (.seq f50r2 (.seq (.cond (.tmp 9) .skip (.exit 0)) (.seq (.block 1 (.seq f50r3 (.seq f50r4 (.cond (.tmp 16) (.seq f50r5 .ret) .skip)))) f50r6))) s := rfl
abbrev f50o7 : List (Nat × Pop) := [
  (0, ⟨(some 4), .mv (.c (.t (.i .i64 (-1)))), none⟩)]
abbrev f50r7 : Pc := .reg f50o7 [4] []
abbrev f50b : Pc := (.seq f50r0 (.seq (.seq f50r1 (.block 0 (.loop f50l0))) (.seq f50r7 .ret)))
abbrev f50 : Pfn := ⟨2, 19, [.tmp 4], f50b⟩
def f50K : Array (List Nat) := #[[0, 1], [0, 1, 7, 8], [0, 1, 7, 8, 9], [0, 1, 5, 7, 8], [0, 1, 5, 7, 8, 16], [4], [0, 1, 7, 8], [4]]
def f50H : Array (List Nat) := #[[], [], [], [], [], [], [], []]
def f50A : Ann := ⟨fun r => f50K.getD r [], fun r => f50H.getD r [], fun r i => ([] : List (Nat × Nat)).contains (r, i)⟩
theorem f50C : compF Go.Proofs.Try.prog f50A 50 = some f50 := by kernel_rfl

/-- switchboard/place.Right -/
abbrev f51o0 : List (Nat × Pop) := [
  (0, ⟨(some 1), .box 25 2 (.tmp 0), none⟩),
  (1, ⟨(some 2), .mv (.c (.t (.b false))), none⟩)]
abbrev f51r0 : Pc := .reg f51o0 [1] []
abbrev f51o1 : List (Nat × Pop) := [
  (0, ⟨(some 8), .fad 1 (.tmp 1), none⟩),
  (1, ⟨(some 9), .load false 1 (.tmp 8), none⟩),
  (2, ⟨(some 10), .lenL (.tmp 9), none⟩),
  (3, ⟨(some 11), .mv (.c (.t (.i .i64 0))), none⟩)]
abbrev f51r1 : Pc := .reg f51o1 [1, 9, 10, 11] []
abbrev f51o2 : List (Nat × Pop) := [
  (0, ⟨(some 12), .bin .lss (.tmp 11) (.tmp 10), none⟩)]
abbrev f51r2 : Pc := .reg f51o2 [1, 9, 10, 11, 12] []
abbrev f51o3 : List (Nat × Pop) := [
  (0, ⟨(some 13), .ixS 1 (.tmp 9) (.tmp 11), none⟩),
  (1, ⟨(some 14), .load false 1 (.tmp 13), none⟩),
  (2, ⟨(some 4), .mv (.tmp 14), none⟩)]
abbrev f51r3 : Pc := .reg f51o3 [1, 4, 9, 10, 11] []
abbrev f51o4 : List (Nat × Pop) := [
  (0, ⟨(some 5), .mv (.c (.t (.i .i64 0))), none⟩)]
abbrev f51r4 : Pc := .reg f51o4 [1, 4, 5, 9, 10, 11] []
abbrev f51o5 : List (Nat × Pop) := [
  (0, ⟨(some 15), .mv (.tmp 4), none⟩),
  (1, ⟨(some 16), .lenL (.tmp 15), none⟩),
  (2, ⟨(some 17), .mv (.c (.t (.i .i64 0))), none⟩)]
abbrev f51r5 : Pc := .reg f51o5 [1, 4, 5, 9, 10, 11, 15, 16, 17] []
abbrev f51o6 : List (Nat × Pop) := [
  (0, ⟨(some 18), .bin .lss (.tmp 17) (.tmp 16), none⟩)]
abbrev f51r6 : Pc := .reg f51o6 [1, 4, 5, 9, 10, 11, 15, 16, 17, 18] []
abbrev f51o7 : List (Nat × Pop) := [
  (0, ⟨(some 19), .ixS 1 (.tmp 15) (.tmp 17), none⟩),
  (1, ⟨(some 20), .load false 1 (.tmp 19), none⟩),
  (2, ⟨(some 7), .mv (.tmp 20), none⟩)]
abbrev f51r7 : Pc := .reg f51o7 [1, 4, 5, 7, 9, 10, 11, 15, 16, 17] []
abbrev f51o8 : List (Nat × Pop) := [
  (0, ⟨(some 21), .mv (.tmp 7), none⟩),
  (1, ⟨(some 22), .mv (.tmp 5), none⟩),
  (2, ⟨(some 23), .bin .leq (.tmp 21) (.tmp 22), none⟩),
  (3, ⟨(some 24), .mv (.tmp 23), none⟩),
  (4, ⟨(some 25), .mv (.tmp 7), (some (24, false))⟩),
  (5, ⟨(some 26), .bin .gtr (.tmp 25) (.c (.t (.i .i64 4))), (some (24, false))⟩),
  (6, ⟨(some 27), .pick (.tmp 24) (.c (.t (.b true))) (.tmp 26), none⟩)]
abbrev f51r8 : Pc := .reg f51o8 [1, 4, 7, 9, 10, 11, 15, 16, 17, 27] []
abbrev f51o9 : List (Nat × Pop) := [
  (0, ⟨(some 2), .mv (.c (.t (.b false))), none⟩)]
abbrev f51r9 : Pc := .reg f51o9 [2] [1]
abbrev f51o10 : List (Nat × Pop) := [
  (0, ⟨(some 28), .mv (.tmp 7), none⟩),
  (1, ⟨(some 5), .mv (.tmp 28), none⟩)]
abbrev f51r10 : Pc := .reg f51o10 [1, 4, 5, 9, 10, 11, 15, 16, 17] []
abbrev f51o11 : List (Nat × Pop) := [
  (0, ⟨(some 29), .bin .add (.tmp 17) (.c (.t (.i .i64 1))), none⟩),
  (1, ⟨(some 17), .mv (.tmp 29), none⟩)]
abbrev f51r11 : Pc := .reg f51o11 [1, 4, 5, 9, 10, 11, 15, 16, 17] []
def f51l0 : Pc := (.seq f51r6 (.seq (.cond (.tmp 18) .skip (.exit 2)) (.seq (.block 3 (.seq f51r7 (.seq (.seq f51r8 (.cond (.tmp 27) (.seq f51r9 .ret) .skip)) f51r10))) f51r11)))
theorem f51l0e (C : Cfg) (s : St) : evL C f51l0 s = evL C (.seq f51r6 (.seq (.cond (.tmp 18) .skip (.exit 2)) (.seq (.block 3 (.seq f51r7 (.seq (.seq f51r8 (.cond (.tmp 27) (.seq f51r9 .ret) .skip)) f51r10))) f51r11))) s := rfl
abbrev f51o12 : List (Nat × Pop) := [
  (0, ⟨(some 30), .mv (.tmp 4), none⟩),
  (1, ⟨(some 31), .lenL (.tmp 30), none⟩),
  (2, ⟨(some 32), .bin .eql (.tmp 31) (.c (.t (.i .i64 0))), none⟩)]
abbrev f51r12 : Pc := .reg f51o12 [1, 9, 10, 11, 32] []
abbrev f51o13 : List (Nat × Pop) := [
  (0, ⟨(some 2), .mv (.c (.t (.b false))), none⟩)]
abbrev f51r13 : Pc := .reg f51o13 [2] [1]
abbrev f51o14 : List (Nat × Pop) := [
  (0, ⟨(some 33), .bin .add (.tmp 11) (.c (.t (.i .i64 1))), none⟩),
  (1, ⟨(some 11), .mv (.tmp 33), none⟩)]
abbrev f51r14 : Pc := .reg f51o14 [1, 9, 10, 11] []
def f51l1 : Pc := (.seq f51r2 (.seq (.cond (.tmp 12) .skip (.exit 0)) (.seq (.block 1 (.seq f51r3 (.seq f51r4 (.seq (.seq f51r5 (.block 2 (.loop f51l0))) (.seq f51r12 (.cond (.tmp 32) (.seq f51r13 .ret) .skip)))))) f51r14)))
theorem f51l1e (C : Cfg) (s : St) : evL C f51l1 s = evL C (.seq f51r2 (.seq (.cond (.tmp 12) .skip (.exit 0)) (.seq (.block 1 (.seq f51r3 (.seq f51r4 (.seq (.seq f51r5 (.block 2 (.loop f51l0))) (.seq f51r12 (.cond (.tmp 32) (.seq f51r13 .ret) .skip)))))) f51r14))) s := rfl
abbrev f51o15 : List (Nat × Pop) := [
  (0, ⟨(some 34), .fad 0 (.tmp 1), none⟩),
  (1, ⟨(some 35), .load false 1 (.tmp 34), none⟩),
  (2, ⟨(some 36), .bin .geq (.tmp 35) (.c (.t (.i .i64 0))), none⟩),
  (3, ⟨(some 37), .mv (.tmp 36), none⟩),
  (4, ⟨(some 38), .fad 0 (.tmp 1), (some (37, true))⟩),
  (5, ⟨(some 39), .load false 1 (.tmp 38), (some (37, true))⟩),
  (6, ⟨(some 40), .bin .leq (.tmp 39) (.c (.t (.i .i64 2147483647))), (some (37, true))⟩),
  (7, ⟨(some 41), .pick (.tmp 37) (.tmp 40) (.c (.t (.b false))), none⟩),
  (8, ⟨(some 42), .mv (.tmp 41), none⟩),
  (9, ⟨(some 43), .fad 1 (.tmp 1), (some (42, true))⟩),
  (10, ⟨(some 44), .load false 1 (.tmp 43), (some (42, true))⟩),
  (11, ⟨(some 45), .lenL (.tmp 44), (some (42, true))⟩),
  (12, ⟨(some 46), .bin .leq (.tmp 45) (.c (.t (.i .i64 8))), (some (42, true))⟩),
  (13, ⟨(some 47), .pick (.tmp 42) (.tmp 46) (.c (.t (.b false))), none⟩),
  (14, ⟨(some 2), .mv (.tmp 47), none⟩)]
abbrev f51r15 : Pc := .reg f51o15 [2] [1]
abbrev f51b : Pc := (.seq f51r0 (.seq (.seq f51r1 (.block 0 (.loop f51l1))) (.seq f51r15 .ret)))
abbrev f51 : Pfn := ⟨1, 48, [.tmp 2], f51b⟩
def f51K : Array (List Nat) := #[[1], [1, 9, 10, 11], [1, 9, 10, 11, 12], [1, 4, 9, 10, 11], [1, 4, 5, 9, 10, 11], [1, 4, 5, 9, 10, 11, 15, 16, 17], [1, 4, 5, 9, 10, 11, 15, 16, 17, 18], [1, 4, 5, 7, 9, 10, 11, 15, 16, 17], [1, 4, 7, 9, 10, 11, 15, 16, 17, 27], [2], [1, 4, 5, 9, 10, 11, 15, 16, 17], [1, 4, 5, 9, 10, 11, 15, 16, 17], [1, 9, 10, 11, 32], [2], [1, 9, 10, 11], [2]]
def f51H : Array (List Nat) := #[[], [], [], [], [], [], [], [], [], [1], [], [], [], [1], [], [1]]
def f51A : Ann := ⟨fun r => f51K.getD r [], fun r => f51H.getD r [], fun r i => ([] : List (Nat × Nat)).contains (r, i)⟩
theorem f51C : compF Go.Proofs.Try.prog f51A 51 = some f51 := by kernel_rfl

/-- slices.Clone[[][]int,[]int] -/
abbrev f54o0 : List (Nat × Pop) := [
  (0, ⟨(some 2), .nilv 22 1, none⟩)]
abbrev f54r0 : Pc := .reg f54o0 [0] [2, 5, 7]
abbrev f54o1 : List (Nat × Pop) := [
  (0, ⟨(some 3), .mv (.tmp 0), none⟩),
  (1, ⟨(some 4), .isnilS false (.tmp 3), none⟩)]
abbrev f54r1 : Pc := .reg f54o1 [0, 4] []
abbrev f54o2 : List (Nat × Pop) := [
  (0, ⟨(some 2), .nilv 22 1, none⟩)]
abbrev f54r2 : Pc := .reg f54o2 [2] []
abbrev f54o3 : List (Nat × Pop) := [
  (0, ⟨(some 5), .bslO 22 1 [], none⟩),
  (1, ⟨(some 6), .mv (.tmp 0), none⟩),
  (2, ⟨(some 7), .app 22 1 24 (.tmp 5) (.tmp 6), none⟩),
  (3, ⟨(some 2), .mv (.tmp 7), none⟩)]
abbrev f54r3 : Pc := .reg f54o3 [2] []
abbrev f54b : Pc := (.seq f54r0 (.seq (.seq f54r1 (.cond (.tmp 4) (.seq f54r2 .ret) .skip)) (.seq f54r3 .ret)))
abbrev f54 : Pfn := ⟨1, 8, [.tmp 2], f54b⟩
def f54K : Array (List Nat) := #[[0], [0, 4], [2], [2]]
def f54H : Array (List Nat) := #[[2, 5, 7], [], [], []]
def f54A : Ann := ⟨fun r => f54K.getD r [], fun r => f54H.getD r [], fun r i => ([(3, 0)] : List (Nat × Nat)).contains (r, i)⟩
theorem f54C : compF Go.Proofs.Try.prog f54A 54 = some f54 := by kernel_rfl

/-- slices.IndexFunc[[]int,int] -/
abbrev f55o0 : List (Nat × Pop) := [
  (0, ⟨(some 4), .mv (.c (.t (.i .i64 0))), none⟩)]
abbrev f55r0 : Pc := .reg f55o0 [0, 1] []
abbrev f55o1 : List (Nat × Pop) := [
  (0, ⟨(some 6), .mv (.tmp 0), none⟩),
  (1, ⟨(some 7), .lenL (.tmp 6), none⟩),
  (2, ⟨(some 8), .mv (.c (.t (.i .i64 0))), none⟩)]
abbrev f55r1 : Pc := .reg f55o1 [0, 1, 7, 8] []
abbrev f55o2 : List (Nat × Pop) := [
  (0, ⟨(some 9), .bin .lss (.tmp 8) (.tmp 7), none⟩)]
abbrev f55r2 : Pc := .reg f55o2 [0, 1, 7, 8, 9] []
abbrev f55o3 : List (Nat × Pop) := [
  (0, ⟨(some 10), .mv (.tmp 8), none⟩),
  (1, ⟨(some 5), .mv (.tmp 10), none⟩)]
abbrev f55r3 : Pc := .reg f55o3 [0, 1, 5, 7, 8] []
abbrev f55o4 : List (Nat × Pop) := [
  (0, ⟨(some 11), .mv (.tmp 1), none⟩),
  (1, ⟨(some 12), .mv (.tmp 0), none⟩),
  (2, ⟨(some 13), .mv (.tmp 5), none⟩),
  (3, ⟨(some 14), .ixS 1 (.tmp 12) (.tmp 13), none⟩),
  (4, ⟨(some 15), .load false 1 (.tmp 14), none⟩),
  (5, ⟨(some 16), .callv (.tmp 11) [(.tmp 15)], none⟩)]
abbrev f55r4 : Pc := .reg f55o4 [0, 1, 5, 7, 8, 16] []
abbrev f55o5 : List (Nat × Pop) := [
  (0, ⟨(some 17), .mv (.tmp 5), none⟩),
  (1, ⟨(some 4), .mv (.tmp 17), none⟩)]
abbrev f55r5 : Pc := .reg f55o5 [4] []
abbrev f55o6 : List (Nat × Pop) := [
  (0, ⟨(some 18), .bin .add (.tmp 8) (.c (.t (.i .i64 1))), none⟩),
  (1, ⟨(some 8), .mv (.tmp 18), none⟩)]
abbrev f55r6 : Pc := .reg f55o6 [0, 1, 7, 8] []
def f55l0 : Pc := (.seq f55r2 (.seq (.cond (.tmp 9) .skip (.exit 0)) (.seq (.block 1 (.seq f55r3 (.seq f55r4 (.cond (.tmp 16) (.seq f55r5 .ret) .skip)))) f55r6)))
theorem f55l0e (C : Cfg) (s : St) : evL C f55l0 s = evL C (.seq f55r2 (.seq (.cond (.tmp 9) .skip (.exit 0)) (.seq (.block 1 (.seq f55r3 (.seq f55r4 (.cond (.tmp 16) (.seq f55r5 .ret) .skip)))) f55r6))) s := rfl
abbrev f55o7 : List (Nat × Pop) := [
  (0, ⟨(some 4), .mv (.c (.t (.i .i64 (-1)))), none⟩)]
abbrev f55r7 : Pc := .reg f55o7 [4] []
abbrev f55b : Pc := (.seq f55r0 (.seq (.seq f55r1 (.block 0 (.loop f55l0))) (.seq f55r7 .ret)))
abbrev f55 : Pfn := ⟨2, 19, [.tmp 4], f55b⟩
def f55K : Array (List Nat) := #[[0, 1], [0, 1, 7, 8], [0, 1, 7, 8, 9], [0, 1, 5, 7, 8], [0, 1, 5, 7, 8, 16], [4], [0, 1, 7, 8], [4]]
def f55H : Array (List Nat) := #[[], [], [], [], [], [], [], []]
def f55A : Ann := ⟨fun r => f55K.getD r [], fun r => f55H.getD r [], fun r i => ([] : List (Nat × Nat)).contains (r, i)⟩
theorem f55C : compF Go.Proofs.Try.prog f55A 55 = some f55 := by kernel_rfl


end Go.Proofs.Ytchjpboiebdabaa.Pv
