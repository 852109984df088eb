/- The functions' forms, as the pure evaluator takes them; each is what the program's code gives (kernel_rfl). -/
import Derived.Test.YtldbikinnoiacaaComp
import Derived.Test.YtldbikinnoiacaaRet
import Derived.Test.YtldbikinnoiacaaProg
import Derived.KernelRfl
namespace Go.Proofs.Ytldbikinnoiacaa.Pv
open Go Go.Pev
/-- switchboard/switchboardlaw21.LoadMay -/
abbrev f3o0 : List (Nat × Pop) := [
  (0, ⟨(some 4), .box 25 2 (.tmp 1), none⟩),
  (1, ⟨(some 6), .mv (.c (.t (.b false))), none⟩)]
abbrev f3r0 : Pc := .reg f3o0 [0, 2, 4] []
abbrev f3o1 : List (Nat × Pop) := [
  (0, ⟨(some 17), .mv (.tmp 0), none⟩),
  (1, ⟨(some 18), .lenL (.tmp 17), none⟩),
  (2, ⟨(some 19), .bin .gtr (.tmp 18) (.c (.t (.i .i64 60))), none⟩),
  (3, ⟨(some 20), .mv (.tmp 19), none⟩),
  (4, ⟨(some 21), .fad 1 (.tmp 4), (some (20, false))⟩),
  (5, ⟨(some 22), .load false 1 (.tmp 21), (some (20, false))⟩),
  (6, ⟨(some 23), .call 4 [(.tmp 22)], (some (20, false))⟩),
  (7, ⟨(some 24), .un .not (.tmp 23), (some (20, false))⟩),
  (8, ⟨(some 25), .pick (.tmp 20) (.c (.t (.b true))) (.tmp 24), none⟩),
  (9, ⟨(some 26), .mv (.tmp 25), none⟩),
  (10, ⟨(some 27), .fad 0 (.tmp 4), (some (26, false))⟩),
  (11, ⟨(some 28), .load false 1 (.tmp 27), (some (26, false))⟩),
  (12, ⟨(some 29), .bin .gtr (.tmp 28) (.c (.t (.i .i64 1073741824))), (some (26, false))⟩),
  (13, ⟨(some 30), .pick (.tmp 26) (.c (.t (.b true))) (.tmp 29), none⟩)]
abbrev f3r1 : Pc := .reg f3o1 [0, 2, 4, 30] []
abbrev f3o2 : List (Nat × Pop) := [
  (0, ⟨(some 31), .call 5 [], none⟩),
  (1, ⟨(some 6), .mv (.tmp 31), none⟩)]
abbrev f3r2 : Pc := .reg f3o2 [6] [4]
abbrev f3o3 : List (Nat × Pop) := [
  (0, ⟨(some 33), .mv (.tmp 0), none⟩),
  (1, ⟨(some 34), .load true 2 (.tmp 4), none⟩),
  (2, ⟨(some 35), .mv (.tmp 2), none⟩),
  (3, ⟨(some 36), .call 6 [(.tmp 33), (.tmp 34), (.tmp 35)], none⟩),
  (4, ⟨(some 32), .mv (.tmp 36), none⟩),
  (5, ⟨(some 37), .ext 0 (.tmp 32), none⟩),
  (6, ⟨(some 38), .ext 1 (.tmp 32), none⟩),
  (7, ⟨(some 39), .ext 2 (.tmp 32), none⟩),
  (8, ⟨(some 7), .mv (.tmp 37), none⟩),
  (9, ⟨(some 8), .mv (.tmp 38), none⟩),
  (10, ⟨(some 9), .mv (.tmp 39), none⟩)]
abbrev f3r3 : Pc := .reg f3o3 [0, 2, 4, 7, 8, 9] []
abbrev f3o4 : List (Nat × Pop) := [
  (0, ⟨(some 41), .mv (.tmp 0), none⟩),
  (1, ⟨(some 42), .load true 2 (.tmp 4), none⟩),
  (2, ⟨(some 43), .mv (.tmp 2), none⟩),
  (3, ⟨(some 44), .call 7 [(.tmp 41), (.tmp 42), (.tmp 43)], none⟩),
  (4, ⟨(some 40), .mv (.tmp 44), none⟩),
  (5, ⟨(some 45), .ext 0 (.tmp 40), none⟩),
  (6, ⟨(some 46), .ext 1 (.tmp 40), none⟩),
  (7, ⟨(some 47), .ext 2 (.tmp 40), none⟩),
  (8, ⟨(some 10), .mv (.tmp 45), none⟩),
  (9, ⟨(some 11), .mv (.tmp 46), none⟩),
  (10, ⟨(some 12), .mv (.tmp 47), none⟩)]
abbrev f3r4 : Pc := .reg f3o4 [4, 7, 8, 9, 10, 11, 12] []
abbrev f3o5 : List (Nat × Pop) := [
  (0, ⟨(some 48), .mv (.tmp 9), none⟩)]
abbrev f3r5 : Pc := .reg f3o5 [4, 7, 8, 10, 11, 12, 48] []
abbrev f3o6 : List (Nat × Pop) := [
  (0, ⟨(some 50), .load true 2 (.tmp 4), none⟩),
  (1, ⟨(some 51), .mv (.tmp 7), none⟩),
  (2, ⟨(some 52), .mv (.tmp 8), none⟩),
  (3, ⟨(some 53), .call 8 [(.tmp 50), (.tmp 51), (.tmp 52)], none⟩),
  (4, ⟨(some 49), .mv (.tmp 53), none⟩),
  (5, ⟨(some 54), .ext 0 (.tmp 49), none⟩),
  (6, ⟨(some 55), .ext 1 (.tmp 49), none⟩),
  (7, ⟨(some 13), .alloc 25 [(.t (.i .i64 0)), .nl], none⟩),
  (8, ⟨none, .store 2 (.tmp 13) (.tmp 54), none⟩),
  (9, ⟨(some 14), .mv (.tmp 55), none⟩)]
abbrev f3r6 : Pc := .reg f3o6 [4, 8, 10, 11, 12, 13, 14] []
abbrev f3o7 : List (Nat × Pop) := [
  (0, ⟨(some 56), .mv (.tmp 14), none⟩),
  (1, ⟨(some 57), .bin .neq (.tmp 56) (.c (.t (.i .i64 0))), none⟩),
  (2, ⟨(some 58), .mv (.tmp 57), none⟩),
  (3, ⟨(some 59), .load true 2 (.tmp 13), (some (58, false))⟩),
  (4, ⟨(some 60), .mv (.tmp 8), (some (58, false))⟩),
  (5, ⟨(some 61), .callq 9 [(.tmp 59), (.tmp 60)], (some (58, false))⟩),
  (6, ⟨(some 62), .load true 2 (.tmp 4), (some (58, false))⟩),
  (7, ⟨(some 63), .mv (.tmp 8), (some (58, false))⟩),
  (8, ⟨(some 64), .callq 9 [(.tmp 62), (.tmp 63)], (some (58, false))⟩),
  (9, ⟨(some 65), .bin .add (.tmp 64) (.c (.t (.i .i64 1))), (some (58, false))⟩),
  (10, ⟨(some 66), .bin .neq (.tmp 61) (.tmp 65), (some (58, false))⟩),
  (11, ⟨(some 67), .pick (.tmp 58) (.c (.t (.b true))) (.tmp 66), none⟩)]
abbrev f3r7 : Pc := .reg f3o7 [4, 10, 11, 12, 67] [13]
abbrev f3o8 : List (Nat × Pop) := [
  (0, ⟨(some 6), .mv (.c (.t (.b false))), none⟩)]
abbrev f3r8 : Pc := .reg f3o8 [6] [4]
abbrev f3o9 : List (Nat × Pop) := [
  (0, ⟨(some 68), .mv (.tmp 12), none⟩)]
abbrev f3r9 : Pc := .reg f3o9 [4, 10, 11, 68] []
abbrev f3o10 : List (Nat × Pop) := [
  (0, ⟨(some 70), .load true 2 (.tmp 4), none⟩),
  (1, ⟨(some 71), .mv (.tmp 10), none⟩),
  (2, ⟨(some 72), .mv (.tmp 11), none⟩),
  (3, ⟨(some 73), .call 10 [(.tmp 70), (.tmp 71), (.tmp 72)], none⟩),
  (4, ⟨(some 69), .mv (.tmp 73), none⟩),
  (5, ⟨(some 74), .ext 0 (.tmp 69), none⟩),
  (6, ⟨(some 75), .ext 1 (.tmp 69), none⟩),
  (7, ⟨(some 15), .alloc 25 [(.t (.i .i64 0)), .nl], none⟩),
  (8, ⟨none, .store 2 (.tmp 15) (.tmp 74), none⟩),
  (9, ⟨(some 16), .mv (.tmp 75), none⟩)]
abbrev f3r10 : Pc := .reg f3o10 [4, 11, 15, 16] []
abbrev f3o11 : List (Nat × Pop) := [
  (0, ⟨(some 76), .mv (.tmp 16), none⟩),
  (1, ⟨(some 77), .bin .neq (.tmp 76) (.c (.t (.i .i64 0))), none⟩),
  (2, ⟨(some 78), .mv (.tmp 77), none⟩),
  (3, ⟨(some 79), .load true 2 (.tmp 15), (some (78, false))⟩),
  (4, ⟨(some 80), .mv (.tmp 11), (some (78, false))⟩),
  (5, ⟨(some 81), .callq 9 [(.tmp 79), (.tmp 80)], (some (78, false))⟩),
  (6, ⟨(some 82), .load true 2 (.tmp 4), (some (78, false))⟩),
  (7, ⟨(some 83), .mv (.tmp 11), (some (78, false))⟩),
  (8, ⟨(some 84), .callq 9 [(.tmp 82), (.tmp 83)], (some (78, false))⟩),
  (9, ⟨(some 85), .bin .sub (.tmp 84) (.c (.t (.i .i64 1))), (some (78, false))⟩),
  (10, ⟨(some 86), .bin .neq (.tmp 81) (.tmp 85), (some (78, false))⟩),
  (11, ⟨(some 87), .pick (.tmp 78) (.c (.t (.b true))) (.tmp 86), none⟩)]
abbrev f3r11 : Pc := .reg f3o11 [87] [4, 15]
abbrev f3o12 : List (Nat × Pop) := [
  (0, ⟨(some 6), .mv (.c (.t (.b false))), none⟩)]
abbrev f3r12 : Pc := .reg f3o12 [6] []
abbrev f3o13 : List (Nat × Pop) := [
  (0, ⟨(some 88), .call 5 [], none⟩),
  (1, ⟨(some 6), .mv (.tmp 88), none⟩)]
abbrev f3r13 : Pc := .reg f3o13 [6] [4]
abbrev f3b : Pc := (.seq f3r0 (.seq (.seq f3r1 (.cond (.tmp 30) (.seq f3r2 .ret) .skip)) (.seq f3r3 (.seq f3r4 (.seq (.seq f3r5 (.cond (.tmp 48) (.seq f3r6 (.seq f3r7 (.cond (.tmp 67) (.seq f3r8 .ret) .skip))) .skip)) (.seq (.seq f3r9 (.cond (.tmp 68) (.seq f3r10 (.seq f3r11 (.cond (.tmp 87) (.seq f3r12 .ret) .skip))) .skip)) (.seq f3r13 .ret)))))))
abbrev f3 : Pfn := ⟨3, 89, [.tmp 6], f3b⟩
def f3K : Array (List Nat) := #[[0, 2, 4], [0, 2, 4, 30], [6], [0, 2, 4, 7, 8, 9], [4, 7, 8, 9, 10, 11, 12], [4, 7, 8, 10, 11, 12, 48], [4, 8, 10, 11, 12, 13, 14], [4, 10, 11, 12, 67], [6], [4, 10, 11, 68], [4, 11, 15, 16], [87], [6], [6]]
def f3H : Array (List Nat) := #[[], [], [4], [], [], [], [], [13], [4], [], [], [4, 15], [], [4]]
def f3A : Ann := ⟨fun r => f3K.getD r [], fun r => f3H.getD r [], fun r i => ([] : List (Nat × Nat)).contains (r, i)⟩
theorem f3C : compF Go.Proofs.Try.prog f3A 3 = some f3 := by kernel_rfl

/-- switchboard/switchboardref03.Small -/
abbrev f4o0 : List (Nat × Pop) := [
  (0, ⟨(some 2), .mv (.c (.t (.b false))), none⟩)]
abbrev f4r0 : Pc := .reg f4o0 [0] []
abbrev f4o1 : List (Nat × Pop) := [
  (0, ⟨(some 3), .mv (.c (.t (.i .i64 0))), none⟩)]
abbrev f4r1 : Pc := .reg f4o1 [0, 3] []
abbrev f4o2 : List (Nat × Pop) := [
  (0, ⟨(some 4), .mv (.tmp 3), none⟩),
  (1, ⟨(some 5), .mv (.tmp 0), none⟩),
  (2, ⟨(some 6), .lenL (.tmp 5), none⟩),
  (3, ⟨(some 7), .bin .lss (.tmp 4) (.tmp 6), none⟩),
  (4, ⟨(some 8), .mv (.tmp 7), none⟩),
  (5, ⟨(some 9), .mv (.tmp 3), (some (8, true))⟩),
  (6, ⟨(some 10), .bin .lss (.tmp 9) (.c (.t (.i .i64 30))), (some (8, true))⟩),
  (7, ⟨(some 11), .pick (.tmp 8) (.tmp 10) (.c (.t (.b false))), none⟩)]
abbrev f4r2 : Pc := .reg f4o2 [0, 3, 11] []
abbrev f4o4 : List (Nat × Pop) := [
  (0, ⟨(some 14), .mv (.tmp 0), none⟩),
  (1, ⟨(some 15), .mv (.tmp 3), none⟩),
  (2, ⟨(some 16), .ixS 1 (.tmp 14) (.tmp 15), none⟩),
  (3, ⟨(some 17), .load false 1 (.tmp 16), none⟩),
  (4, ⟨(some 18), .lenL (.tmp 17), none⟩),
  (5, ⟨(some 19), .bin .gtr (.tmp 18) (.c (.t (.i .i64 30))), none⟩)]
abbrev f4r4 : Pc := .reg f4o4 [0, 3, 19] []
abbrev f4o5 : List (Nat × Pop) := [
  (0, ⟨(some 2), .mv (.c (.t (.b false))), none⟩)]
abbrev f4r5 : Pc := .reg f4o5 [2] []
abbrev f4o3 : List (Nat × Pop) := [
  (0, ⟨(some 12), .mv (.tmp 3), none⟩),
  (1, ⟨(some 13), .bin .add (.tmp 12) (.c (.t (.i .i64 1))), none⟩),
  (2, ⟨(some 3), .mv (.tmp 13), none⟩)]
abbrev f4r3 : Pc := .reg f4o3 [0, 3] []
def f4l0 : Pc := (.seq (.seq f4r2 (.cond (.tmp 11) .skip (.exit 0))) (.seq (.block 1 (.seq f4r4 (.cond (.tmp 19) (.seq f4r5 .ret) .skip))) f4r3))
theorem f4l0e (C : Cfg) (s : St) : evL C f4l0 s = evL C (.seq (.seq f4r2 (.cond (.tmp 11) .skip (.exit 0))) (.seq (.block 1 (.seq f4r4 (.cond (.tmp 19) (.seq f4r5 .ret) .skip))) f4r3)) s := rfl
abbrev f4o6 : List (Nat × Pop) := [
  (0, ⟨(some 20), .mv (.tmp 0), none⟩),
  (1, ⟨(some 21), .lenL (.tmp 20), none⟩),
  (2, ⟨(some 22), .bin .leq (.tmp 21) (.c (.t (.i .i64 30))), none⟩),
  (3, ⟨(some 2), .mv (.tmp 22), none⟩)]
abbrev f4r6 : Pc := .reg f4o6 [2] []
abbrev f4b : Pc := (.seq f4r0 (.seq (.seq f4r1 (.block 0 (.loop f4l0))) (.seq f4r6 .ret)))
abbrev f4 : Pfn := ⟨1, 23, [.tmp 2], f4b⟩
def f4K : Array (List Nat) := #[[0], [0, 3], [0, 3, 11], [0, 3], [0, 3, 19], [2], [2]]
def f4H : Array (List Nat) := #[[], [], [], [], [], [], []]
def f4A : Ann := ⟨fun r => f4K.getD r [], fun r => f4H.getD r [], fun r i => ([] : List (Nat × Nat)).contains (r, i)⟩
theorem f4C : compF Go.Proofs.Try.prog f4A 4 = some f4 := by kernel_rfl

/-- switchboard/switchboardlaw21.awake -/
abbrev f5o0 : List (Nat × Pop) := [
  (0, ⟨(some 0), .mv (.c (.t (.b false))), none⟩)]
abbrev f5r0 : Pc := .reg f5o0 [] []
abbrev f5o1 : List (Nat × Pop) := [
  (0, ⟨(some 6), .bslT 1 [(.c (.t (.i .i64 9))), (.c (.t (.i .i64 1)))], none⟩),
  (1, ⟨(some 7), .bslT 1 [(.c (.t (.i .i64 1)))], none⟩),
  (2, ⟨(some 8), .bslT 1 [(.c (.t (.i .i64 1)))], none⟩),
  (3, ⟨(some 9), .bslT 1 [(.tmp 7), (.tmp 8)], none⟩),
  (4, ⟨(some 10), .build [(.t (.i .i64 0)), .nl] [(1, 1, (.tmp 9))], none⟩),
  (5, ⟨(some 11), .call 6 [(.tmp 6), (.tmp 10), (.c (.t (.i .i64 4)))], none⟩),
  (6, ⟨(some 5), .mv (.tmp 11), none⟩),
  (7, ⟨(some 12), .ext 0 (.tmp 5), none⟩),
  (8, ⟨(some 13), .ext 1 (.tmp 5), none⟩),
  (9, ⟨(some 14), .ext 2 (.tmp 5), none⟩),
  (10, ⟨(some 1), .mv (.tmp 12), none⟩),
  (11, ⟨(some 2), .mv (.tmp 13), none⟩),
  (12, ⟨(some 3), .mv (.tmp 14), none⟩)]
abbrev f5r1 : Pc := .reg f5o1 [1, 2, 3] []
abbrev f5o2 : List (Nat × Pop) := [
  (0, ⟨(some 15), .call 11 [(.c .nl), (.c (.t (.i .i64 2)))], none⟩),
  (1, ⟨(some 4), .mv (.tmp 15), none⟩)]
abbrev f5r2 : Pc := .reg f5o2 [1, 2, 3, 4] []
abbrev f5o3 : List (Nat × Pop) := [
  (0, ⟨(some 16), .mv (.tmp 1), none⟩),
  (1, ⟨(some 17), .bin .eql (.tmp 16) (.c (.t (.i .i64 0))), none⟩),
  (2, ⟨(some 18), .mv (.tmp 17), none⟩),
  (3, ⟨(some 19), .mv (.tmp 2), (some (18, true))⟩),
  (4, ⟨(some 20), .bin .eql (.tmp 19) (.c (.t (.i .i64 2))), (some (18, true))⟩),
  (5, ⟨(some 21), .pick (.tmp 18) (.tmp 20) (.c (.t (.b false))), none⟩),
  (6, ⟨(some 22), .mv (.tmp 21), none⟩),
  (7, ⟨(some 23), .mv (.tmp 3), (some (22, true))⟩),
  (8, ⟨(some 24), .pick (.tmp 22) (.tmp 23) (.c (.t (.b false))), none⟩),
  (9, ⟨(some 25), .mv (.tmp 24), none⟩),
  (10, ⟨(some 26), .mv (.tmp 4), (some (25, true))⟩),
  (11, ⟨(some 27), .lenL (.tmp 26), (some (25, true))⟩),
  (12, ⟨(some 28), .bin .eql (.tmp 27) (.c (.t (.i .i64 3))), (some (25, true))⟩),
  (13, ⟨(some 29), .pick (.tmp 25) (.tmp 28) (.c (.t (.b false))), none⟩),
  (14, ⟨(some 30), .mv (.tmp 29), none⟩),
  (15, ⟨(some 31), .mv (.tmp 4), (some (30, true))⟩),
  (16, ⟨(some 32), .ixS 1 (.tmp 31) (.c (.t (.i .i64 2))), (some (30, true))⟩),
  (17, ⟨(some 33), .load false 1 (.tmp 32), (some (30, true))⟩),
  (18, ⟨(some 34), .bin .eql (.tmp 33) (.c (.t (.i .i64 1))), (some (30, true))⟩),
  (19, ⟨(some 35), .pick (.tmp 30) (.tmp 34) (.c (.t (.b false))), none⟩),
  (20, ⟨(some 36), .mv (.tmp 35), none⟩),
  (21, ⟨(some 37), .mv (.tmp 4), (some (36, true))⟩),
  (22, ⟨(some 38), .call 12 [(.tmp 37), (.c (.t (.i .i64 1)))], (some (36, true))⟩),
  (23, ⟨(some 39), .bin .eql (.tmp 38) (.c (.t (.i .i64 0))), (some (36, true))⟩),
  (24, ⟨(some 40), .pick (.tmp 36) (.tmp 39) (.c (.t (.b false))), none⟩),
  (25, ⟨(some 0), .mv (.tmp 40), none⟩)]
abbrev f5r3 : Pc := .reg f5o3 [0] []
abbrev f5b : Pc := (.seq f5r0 (.seq f5r1 (.seq f5r2 (.seq f5r3 .ret))))
abbrev f5 : Pfn := ⟨0, 41, [.tmp 0], f5b⟩
def f5K : Array (List Nat) := #[[], [1, 2, 3], [1, 2, 3, 4], [0]]
def f5H : Array (List Nat) := #[[], [], [], []]
def f5A : Ann := ⟨fun r => f5K.getD r [], fun r => f5H.getD r [], fun r i => ([] : List (Nat × Nat)).contains (r, i)⟩
theorem f5C : compF Go.Proofs.Try.prog f5A 5 = some f5 := by kernel_rfl

/-- switchboard/load.Hot -/
abbrev f6o0 : List (Nat × Pop) := [
  (0, ⟨(some 4), .box 25 2 (.tmp 1), none⟩),
  (1, ⟨(some 6), .mv (.c (.t (.i .i64 0))), none⟩),
  (2, ⟨(some 7), .mv (.c (.t (.i .i64 0))), none⟩),
  (3, ⟨(some 8), .mv (.c (.t (.b false))), none⟩)]
abbrev f6r0 : Pc := .reg f6o0 [0, 2, 4] []
abbrev f6o1 : List (Nat × Pop) := [
  (0, ⟨(some 12), .load true 2 (.tmp 4), none⟩),
  (1, ⟨(some 13), .mv (.tmp 2), none⟩),
  (2, ⟨(some 14), .call 13 [(.tmp 12), (.tmp 13)], none⟩),
  (3, ⟨(some 15), .un .not (.tmp 14), none⟩)]
abbrev f6r1 : Pc := .reg f6o1 [0, 2, 4, 15] []
abbrev f6o2 : List (Nat × Pop) := [
  (0, ⟨(some 6), .mv (.c (.t (.i .i64 0))), none⟩),
  (1, ⟨(some 7), .mv (.c (.t (.i .i64 0))), none⟩),
  (2, ⟨(some 8), .mv (.c (.t (.b false))), none⟩)]
abbrev f6r2 : Pc := .reg f6o2 [6, 7, 8] [4]
abbrev f6o3 : List (Nat × Pop) := [
  (0, ⟨(some 9), .mv (.c (.t (.i .i64 (-1)))), none⟩)]
abbrev f6r3 : Pc := .reg f6o3 [0, 2, 4, 9] []
abbrev f6o4 : List (Nat × Pop) := [
  (0, ⟨(some 16), .fad 1 (.tmp 4), none⟩),
  (1, ⟨(some 17), .load false 1 (.tmp 16), none⟩),
  (2, ⟨(some 18), .lenL (.tmp 17), none⟩),
  (3, ⟨(some 19), .mv (.c (.t (.i .i64 0))), none⟩)]
abbrev f6r4 : Pc := .reg f6o4 [0, 2, 4, 9, 17, 18, 19] []
abbrev f6o5 : List (Nat × Pop) := [
  (0, ⟨(some 20), .bin .lss (.tmp 19) (.tmp 18), none⟩)]
abbrev f6r5 : Pc := .reg f6o5 [0, 2, 4, 9, 17, 18, 19, 20] []
abbrev f6o6 : List (Nat × Pop) := [
  (0, ⟨(some 21), .mv (.tmp 19), none⟩),
  (1, ⟨(some 22), .ixS 1 (.tmp 17) (.tmp 19), none⟩),
  (2, ⟨(some 23), .load false 1 (.tmp 22), none⟩),
  (3, ⟨(some 10), .mv (.tmp 21), none⟩),
  (4, ⟨(some 11), .mv (.tmp 23), none⟩)]
abbrev f6r6 : Pc := .reg f6o6 [0, 2, 4, 9, 10, 11, 17, 18, 19] []
abbrev f6o7 : List (Nat × Pop) := [
  (0, ⟨(some 24), .mv (.tmp 0), none⟩),
  (1, ⟨(some 25), .mv (.tmp 10), none⟩),
  (2, ⟨(some 26), .call 12 [(.tmp 24), (.tmp 25)], none⟩),
  (3, ⟨(some 27), .mv (.tmp 2), none⟩),
  (4, ⟨(some 28), .mv (.tmp 11), none⟩),
  (5, ⟨(some 29), .lenL (.tmp 28), none⟩),
  (6, ⟨(some 30), .bin .mul (.tmp 27) (.tmp 29), none⟩),
  (7, ⟨(some 31), .bin .leq (.tmp 26) (.tmp 30), none⟩),
  (8, ⟨(some 32), .mv (.tmp 31), none⟩),
  (9, ⟨(some 33), .load true 2 (.tmp 4), (some (32, false))⟩),
  (10, ⟨(some 34), .mv (.tmp 10), (some (32, false))⟩),
  (11, ⟨(some 35), .call 14 [(.tmp 33), (.tmp 34)], (some (32, false))⟩),
  (12, ⟨(some 36), .bin .eql (.tmp 35) (.c (.t (.i .i64 0))), (some (32, false))⟩),
  (13, ⟨(some 37), .pick (.tmp 32) (.c (.t (.b true))) (.tmp 36), none⟩)]
abbrev f6r7 : Pc := .reg f6o7 [0, 2, 4, 9, 10, 17, 18, 19, 37] []
abbrev f6o8 : List (Nat × Pop) := [
  (0, ⟨(some 38), .mv (.tmp 9), none⟩),
  (1, ⟨(some 39), .bin .lss (.tmp 38) (.c (.t (.i .i64 0))), none⟩),
  (2, ⟨(some 40), .mv (.tmp 39), none⟩),
  (3, ⟨(some 41), .mv (.tmp 0), (some (40, false))⟩),
  (4, ⟨(some 42), .mv (.tmp 10), (some (40, false))⟩),
  (5, ⟨(some 43), .call 12 [(.tmp 41), (.tmp 42)], (some (40, false))⟩),
  (6, ⟨(some 44), .mv (.tmp 0), (some (40, false))⟩),
  (7, ⟨(some 45), .mv (.tmp 9), (some (40, false))⟩),
  (8, ⟨(some 46), .call 12 [(.tmp 44), (.tmp 45)], (some (40, false))⟩),
  (9, ⟨(some 47), .bin .gtr (.tmp 43) (.tmp 46), (some (40, false))⟩),
  (10, ⟨(some 48), .pick (.tmp 40) (.c (.t (.b true))) (.tmp 47), none⟩)]
abbrev f6r8 : Pc := .reg f6o8 [0, 2, 4, 9, 10, 17, 18, 19, 48] []
abbrev f6o9 : List (Nat × Pop) := [
  (0, ⟨(some 49), .mv (.tmp 10), none⟩),
  (1, ⟨(some 9), .mv (.tmp 49), none⟩)]
abbrev f6r9 : Pc := .reg f6o9 [0, 2, 4, 9, 17, 18, 19] []
abbrev f6o10 : List (Nat × Pop) := [
  (0, ⟨(some 50), .bin .add (.tmp 19) (.c (.t (.i .i64 1))), none⟩),
  (1, ⟨(some 19), .mv (.tmp 50), none⟩)]
abbrev f6r10 : Pc := .reg f6o10 [0, 2, 4, 9, 17, 18, 19] []
def f6l0 : Pc := (.seq f6r5 (.seq (.cond (.tmp 20) .skip (.exit 0)) (.seq (.block 1 (.seq f6r6 (.seq (.seq f6r7 (.cond (.tmp 37) (.exit 1) .skip)) (.seq f6r8 (.cond (.tmp 48) f6r9 .skip))))) f6r10)))
theorem f6l0e (C : Cfg) (s : St) : evL C f6l0 s = evL C (.seq f6r5 (.seq (.cond (.tmp 20) .skip (.exit 0)) (.seq (.block 1 (.seq f6r6 (.seq (.seq f6r7 (.cond (.tmp 37) (.exit 1) .skip)) (.seq f6r8 (.cond (.tmp 48) f6r9 .skip))))) f6r10))) s := rfl
abbrev f6o11 : List (Nat × Pop) := [
  (0, ⟨(some 51), .mv (.tmp 9), none⟩),
  (1, ⟨(some 52), .bin .lss (.tmp 51) (.c (.t (.i .i64 0))), none⟩)]
abbrev f6r11 : Pc := .reg f6o11 [4, 9, 52] []
abbrev f6o12 : List (Nat × Pop) := [
  (0, ⟨(some 6), .mv (.c (.t (.i .i64 0))), none⟩),
  (1, ⟨(some 7), .mv (.c (.t (.i .i64 0))), none⟩),
  (2, ⟨(some 8), .mv (.c (.t (.b false))), none⟩)]
abbrev f6r12 : Pc := .reg f6o12 [6, 7, 8] [4]
abbrev f6o13 : List (Nat × Pop) := [
  (0, ⟨(some 53), .mv (.tmp 9), none⟩),
  (1, ⟨(some 54), .load true 2 (.tmp 4), none⟩),
  (2, ⟨(some 55), .mv (.tmp 9), none⟩),
  (3, ⟨(some 56), .call 14 [(.tmp 54), (.tmp 55)], none⟩),
  (4, ⟨(some 6), .mv (.tmp 53), none⟩),
  (5, ⟨(some 7), .mv (.tmp 56), none⟩),
  (6, ⟨(some 8), .mv (.c (.t (.b true))), none⟩)]
abbrev f6r13 : Pc := .reg f6o13 [6, 7, 8] [4]
abbrev f6b : Pc := (.seq f6r0 (.seq (.seq f6r1 (.cond (.tmp 15) (.seq f6r2 .ret) .skip)) (.seq f6r3 (.seq (.seq f6r4 (.block 0 (.loop f6l0))) (.seq (.seq f6r11 (.cond (.tmp 52) (.seq f6r12 .ret) .skip)) (.seq f6r13 .ret))))))
abbrev f6 : Pfn := ⟨3, 57, [.tmp 6, .tmp 7, .tmp 8], f6b⟩
def f6K : Array (List Nat) := #[[0, 2, 4], [0, 2, 4, 15], [6, 7, 8], [0, 2, 4, 9], [0, 2, 4, 9, 17, 18, 19], [0, 2, 4, 9, 17, 18, 19, 20], [0, 2, 4, 9, 10, 11, 17, 18, 19], [0, 2, 4, 9, 10, 17, 18, 19, 37], [0, 2, 4, 9, 10, 17, 18, 19, 48], [0, 2, 4, 9, 17, 18, 19], [0, 2, 4, 9, 17, 18, 19], [4, 9, 52], [6, 7, 8], [6, 7, 8]]
def f6H : Array (List Nat) := #[[], [], [4], [], [], [], [], [], [], [], [], [], [4], [4]]
def f6A : Ann := ⟨fun r => f6K.getD r [], fun r => f6H.getD r [], fun r i => ([] : List (Nat × Nat)).contains (r, i)⟩
theorem f6C : compF Go.Proofs.Try.prog f6A 6 = some f6 := by kernel_rfl

/-- switchboard/load.Cold -/
abbrev f7o0 : List (Nat × Pop) := [
  (0, ⟨(some 4), .box 25 2 (.tmp 1), none⟩),
  (1, ⟨(some 6), .mv (.c (.t (.i .i64 0))), none⟩),
  (2, ⟨(some 7), .mv (.c (.t (.i .i64 0))), none⟩),
  (3, ⟨(some 8), .mv (.c (.t (.b false))), none⟩)]
abbrev f7r0 : Pc := .reg f7o0 [0, 2, 4] []
abbrev f7o1 : List (Nat × Pop) := [
  (0, ⟨(some 13), .load true 2 (.tmp 4), none⟩),
  (1, ⟨(some 14), .mv (.tmp 2), none⟩),
  (2, ⟨(some 15), .call 13 [(.tmp 13), (.tmp 14)], none⟩),
  (3, ⟨(some 16), .un .not (.tmp 15), none⟩)]
abbrev f7r1 : Pc := .reg f7o1 [0, 2, 4, 16] []
abbrev f7o2 : List (Nat × Pop) := [
  (0, ⟨(some 6), .mv (.c (.t (.i .i64 0))), none⟩),
  (1, ⟨(some 7), .mv (.c (.t (.i .i64 0))), none⟩),
  (2, ⟨(some 8), .mv (.c (.t (.b false))), none⟩)]
abbrev f7r2 : Pc := .reg f7o2 [6, 7, 8] [4]
abbrev f7o3 : List (Nat × Pop) := [
  (0, ⟨(some 9), .mv (.c (.t (.i .i64 (-1)))), none⟩)]
abbrev f7r3 : Pc := .reg f7o3 [0, 2, 4, 9] []
abbrev f7o4 : List (Nat × Pop) := [
  (0, ⟨(some 17), .fad 1 (.tmp 4), none⟩),
  (1, ⟨(some 18), .load false 1 (.tmp 17), none⟩),
  (2, ⟨(some 19), .lenL (.tmp 18), none⟩),
  (3, ⟨(some 20), .mv (.c (.t (.i .i64 0))), none⟩)]
abbrev f7r4 : Pc := .reg f7o4 [0, 2, 4, 9, 18, 19, 20] []
abbrev f7o5 : List (Nat × Pop) := [
  (0, ⟨(some 21), .bin .lss (.tmp 20) (.tmp 19), none⟩)]
abbrev f7r5 : Pc := .reg f7o5 [0, 2, 4, 9, 18, 19, 20, 21] []
abbrev f7o6 : List (Nat × Pop) := [
  (0, ⟨(some 22), .mv (.tmp 20), none⟩),
  (1, ⟨(some 23), .ixS 1 (.tmp 18) (.tmp 20), none⟩),
  (2, ⟨(some 24), .load false 1 (.tmp 23), none⟩),
  (3, ⟨(some 10), .mv (.tmp 22), none⟩),
  (4, ⟨(some 11), .mv (.tmp 24), none⟩)]
abbrev f7r6 : Pc := .reg f7o6 [0, 2, 4, 9, 10, 11, 18, 19, 20] []
abbrev f7o7 : List (Nat × Pop) := [
  (0, ⟨(some 25), .mv (.tmp 11), none⟩),
  (1, ⟨(some 26), .lenL (.tmp 25), none⟩),
  (2, ⟨(some 27), .bin .lss (.tmp 26) (.c (.t (.i .i64 2))), none⟩),
  (3, ⟨(some 28), .mv (.tmp 27), none⟩),
  (4, ⟨(some 29), .mv (.tmp 0), (some (28, false))⟩),
  (5, ⟨(some 30), .mv (.tmp 10), (some (28, false))⟩),
  (6, ⟨(some 31), .call 12 [(.tmp 29), (.tmp 30)], (some (28, false))⟩),
  (7, ⟨(some 32), .mv (.tmp 2), (some (28, false))⟩),
  (8, ⟨(some 33), .mv (.tmp 11), (some (28, false))⟩),
  (9, ⟨(some 34), .lenL (.tmp 33), (some (28, false))⟩),
  (10, ⟨(some 35), .bin .sub (.tmp 34) (.c (.t (.i .i64 1))), (some (28, false))⟩),
  (11, ⟨(some 36), .bin .mul (.tmp 32) (.tmp 35), (some (28, false))⟩),
  (12, ⟨(some 37), .bin .geq (.tmp 31) (.tmp 36), (some (28, false))⟩),
  (13, ⟨(some 38), .pick (.tmp 28) (.c (.t (.b true))) (.tmp 37), none⟩)]
abbrev f7r7 : Pc := .reg f7o7 [0, 2, 4, 9, 10, 18, 19, 20, 38] []
abbrev f7o8 : List (Nat × Pop) := [
  (0, ⟨(some 39), .mv (.tmp 9), none⟩),
  (1, ⟨(some 40), .bin .lss (.tmp 39) (.c (.t (.i .i64 0))), none⟩),
  (2, ⟨(some 41), .mv (.tmp 40), none⟩),
  (3, ⟨(some 42), .mv (.tmp 0), (some (41, false))⟩),
  (4, ⟨(some 43), .mv (.tmp 10), (some (41, false))⟩),
  (5, ⟨(some 44), .call 12 [(.tmp 42), (.tmp 43)], (some (41, false))⟩),
  (6, ⟨(some 45), .mv (.tmp 0), (some (41, false))⟩),
  (7, ⟨(some 46), .mv (.tmp 9), (some (41, false))⟩),
  (8, ⟨(some 47), .call 12 [(.tmp 45), (.tmp 46)], (some (41, false))⟩),
  (9, ⟨(some 48), .bin .lss (.tmp 44) (.tmp 47), (some (41, false))⟩),
  (10, ⟨(some 49), .pick (.tmp 41) (.c (.t (.b true))) (.tmp 48), none⟩)]
abbrev f7r8 : Pc := .reg f7o8 [0, 2, 4, 9, 10, 18, 19, 20, 49] []
abbrev f7o9 : List (Nat × Pop) := [
  (0, ⟨(some 50), .mv (.tmp 10), none⟩),
  (1, ⟨(some 9), .mv (.tmp 50), none⟩)]
abbrev f7r9 : Pc := .reg f7o9 [0, 2, 4, 9, 18, 19, 20] []
abbrev f7o10 : List (Nat × Pop) := [
  (0, ⟨(some 51), .bin .add (.tmp 20) (.c (.t (.i .i64 1))), none⟩),
  (1, ⟨(some 20), .mv (.tmp 51), none⟩)]
abbrev f7r10 : Pc := .reg f7o10 [0, 2, 4, 9, 18, 19, 20] []
def f7l0 : Pc := (.seq f7r5 (.seq (.cond (.tmp 21) .skip (.exit 0)) (.seq (.block 1 (.seq f7r6 (.seq (.seq f7r7 (.cond (.tmp 38) (.exit 1) .skip)) (.seq f7r8 (.cond (.tmp 49) f7r9 .skip))))) f7r10)))
theorem f7l0e (C : Cfg) (s : St) : evL C f7l0 s = evL C (.seq f7r5 (.seq (.cond (.tmp 21) .skip (.exit 0)) (.seq (.block 1 (.seq f7r6 (.seq (.seq f7r7 (.cond (.tmp 38) (.exit 1) .skip)) (.seq f7r8 (.cond (.tmp 49) f7r9 .skip))))) f7r10))) s := rfl
abbrev f7o11 : List (Nat × Pop) := [
  (0, ⟨(some 52), .mv (.tmp 9), none⟩),
  (1, ⟨(some 53), .bin .lss (.tmp 52) (.c (.t (.i .i64 0))), none⟩)]
abbrev f7r11 : Pc := .reg f7o11 [4, 9, 53] []
abbrev f7o12 : List (Nat × Pop) := [
  (0, ⟨(some 6), .mv (.c (.t (.i .i64 0))), none⟩),
  (1, ⟨(some 7), .mv (.c (.t (.i .i64 0))), none⟩),
  (2, ⟨(some 8), .mv (.c (.t (.b false))), none⟩)]
abbrev f7r12 : Pc := .reg f7o12 [6, 7, 8] [4]
abbrev f7o13 : List (Nat × Pop) := [
  (0, ⟨(some 54), .fad 1 (.tmp 4), none⟩),
  (1, ⟨(some 55), .load false 1 (.tmp 54), none⟩),
  (2, ⟨(some 56), .mv (.tmp 9), none⟩),
  (3, ⟨(some 57), .ixS 1 (.tmp 55) (.tmp 56), none⟩),
  (4, ⟨(some 58), .load false 1 (.tmp 57), none⟩),
  (5, ⟨(some 12), .mv (.tmp 58), none⟩)]
abbrev f7r13 : Pc := .reg f7o13 [9, 12] [4]
abbrev f7o14 : List (Nat × Pop) := [
  (0, ⟨(some 59), .mv (.tmp 9), none⟩),
  (1, ⟨(some 60), .mv (.tmp 12), none⟩),
  (2, ⟨(some 61), .mv (.tmp 12), none⟩),
  (3, ⟨(some 62), .lenL (.tmp 61), none⟩),
  (4, ⟨(some 63), .bin .sub (.tmp 62) (.c (.t (.i .i64 1))), none⟩),
  (5, ⟨(some 64), .ixS 1 (.tmp 60) (.tmp 63), none⟩),
  (6, ⟨(some 65), .load false 1 (.tmp 64), none⟩),
  (7, ⟨(some 6), .mv (.tmp 59), none⟩),
  (8, ⟨(some 7), .mv (.tmp 65), none⟩),
  (9, ⟨(some 8), .mv (.c (.t (.b true))), none⟩)]
abbrev f7r14 : Pc := .reg f7o14 [6, 7, 8] []
abbrev f7b : Pc := (.seq f7r0 (.seq (.seq f7r1 (.cond (.tmp 16) (.seq f7r2 .ret) .skip)) (.seq f7r3 (.seq (.seq f7r4 (.block 0 (.loop f7l0))) (.seq (.seq f7r11 (.cond (.tmp 53) (.seq f7r12 .ret) .skip)) (.seq f7r13 (.seq f7r14 .ret)))))))
abbrev f7 : Pfn := ⟨3, 66, [.tmp 6, .tmp 7, .tmp 8], f7b⟩
def f7K : Array (List Nat) := #[[0, 2, 4], [0, 2, 4, 16], [6, 7, 8], [0, 2, 4, 9], [0, 2, 4, 9, 18, 19, 20], [0, 2, 4, 9, 18, 19, 20, 21], [0, 2, 4, 9, 10, 11, 18, 19, 20], [0, 2, 4, 9, 10, 18, 19, 20, 38], [0, 2, 4, 9, 10, 18, 19, 20, 49], [0, 2, 4, 9, 18, 19, 20], [0, 2, 4, 9, 18, 19, 20], [4, 9, 53], [6, 7, 8], [9, 12], [6, 7, 8]]
def f7H : Array (List Nat) := #[[], [], [4], [], [], [], [], [], [], [], [], [], [4], [4], []]
def f7A : Ann := ⟨fun r => f7K.getD r [], fun r => f7H.getD r [], fun r i => ([] : List (Nat × Nat)).contains (r, i)⟩
theorem f7C : compF Go.Proofs.Try.prog f7A 7 = some f7 := by kernel_rfl

/-- switchboard/place.Add -/
abbrev f8o0 : List (Nat × Pop) := [
  (0, ⟨(some 3), .box 25 2 (.tmp 0), none⟩),
  (1, ⟨(some 6), .alloc 25 [(.t (.i .i64 0)), .nl], none⟩),
  (2, ⟨(some 7), .mv (.c (.t (.i .i64 0))), none⟩)]
abbrev f8r0 : Pc := .reg f8o0 [1, 2, 3, 6] []
abbrev f8o1 : List (Nat × Pop) := [
  (0, ⟨(some 10), .load true 2 (.tmp 3), none⟩),
  (1, ⟨(some 11), .mv (.tmp 1), none⟩),
  (2, ⟨(some 12), .mv (.tmp 2), none⟩),
  (3, ⟨(some 13), .call 15 [(.tmp 10), (.tmp 11), (.tmp 12)], none⟩),
  (4, ⟨(some 14), .un .not (.tmp 13), none⟩),
  (5, ⟨(some 9), .mv (.tmp 14), none⟩)]
abbrev f8r1 : Pc := .reg f8o1 [1, 2, 3, 6, 9] []
abbrev f8o2 : List (Nat × Pop) := [
  (0, ⟨(some 15), .load true 2 (.tmp 3), none⟩),
  (1, ⟨none, .store 2 (.tmp 6) (.tmp 15), none⟩),
  (2, ⟨(some 7), .mv (.c (.t (.i .i64 1))), none⟩)]
abbrev f8r2 : Pc := .reg f8o2 [6, 7] [3]
abbrev f8o3 : List (Nat × Pop) := [
  (0, ⟨(some 17), .load true 2 (.tmp 3), none⟩),
  (1, ⟨(some 18), .mv (.tmp 1), none⟩),
  (2, ⟨(some 19), .mv (.tmp 2), none⟩),
  (3, ⟨(some 20), .call 16 [(.tmp 17), (.tmp 18), (.tmp 19)], none⟩),
  (4, ⟨(some 16), .mv (.tmp 20), none⟩)]
abbrev f8r3 : Pc := .reg f8o3 [1, 2, 3, 6, 16] []
abbrev f8o4 : List (Nat × Pop) := [
  (0, ⟨(some 21), .load true 2 (.tmp 3), none⟩),
  (1, ⟨none, .store 2 (.tmp 6) (.tmp 21), none⟩),
  (2, ⟨(some 7), .mv (.c (.t (.i .i64 5))), none⟩)]
abbrev f8r4 : Pc := .reg f8o4 [6, 7] [3]
abbrev f8o5 : List (Nat × Pop) := [
  (0, ⟨(some 22), .fad 1 (.tmp 3), none⟩),
  (1, ⟨(some 23), .load false 1 (.tmp 22), none⟩),
  (2, ⟨(some 24), .mv (.tmp 1), none⟩),
  (3, ⟨(some 25), .ixS 1 (.tmp 23) (.tmp 24), none⟩),
  (4, ⟨(some 26), .load false 1 (.tmp 25), none⟩),
  (5, ⟨(some 27), .call 17 [(.tmp 26)], none⟩),
  (6, ⟨(some 28), .mv (.tmp 2), none⟩),
  (7, ⟨(some 29), .bslT 1 [(.tmp 28)], none⟩),
  (8, ⟨(some 30), .app 3 1 8 (.tmp 27) (.tmp 29), none⟩),
  (9, ⟨(some 8), .mv (.tmp 30), none⟩)]
abbrev f8r5 : Pc := .reg f8o5 [1, 3, 6, 8] []
abbrev f8o6 : List (Nat × Pop) := [
  (0, ⟨(some 31), .mv (.tmp 8), none⟩),
  (1, ⟨(some 32), .call 18 [(.tmp 31)], none⟩)]
abbrev f8r6 : Pc := .reg f8o6 [1, 3, 6, 8] []
abbrev f8o7 : List (Nat × Pop) := [
  (0, ⟨(some 33), .load true 2 (.tmp 3), none⟩),
  (1, ⟨(some 34), .mv (.tmp 1), none⟩),
  (2, ⟨(some 35), .mv (.tmp 8), none⟩),
  (3, ⟨(some 36), .call 19 [(.tmp 33), (.tmp 34), (.tmp 35)], none⟩),
  (4, ⟨none, .store 2 (.tmp 6) (.tmp 36), none⟩),
  (5, ⟨(some 7), .mv (.c (.t (.i .i64 0))), none⟩)]
abbrev f8r7 : Pc := .reg f8o7 [6, 7] [3]
abbrev f8b : Pc := (.seq f8r0 (.seq (.block 0 (.seq f8r1 (.cond (.tmp 9) (.seq f8r2 .ret) (.seq f8r3 (.cond (.tmp 16) (.seq f8r4 .ret) .skip))))) (.seq f8r5 (.seq f8r6 (.seq f8r7 .ret)))))
abbrev f8 : Pfn := ⟨3, 37, [.cell 6 true 2, .tmp 7], f8b⟩
def f8K : Array (List Nat) := #[[1, 2, 3, 6], [1, 2, 3, 6, 9], [6, 7], [1, 2, 3, 6, 16], [6, 7], [1, 3, 6, 8], [1, 3, 6, 8], [6, 7]]
def f8H : Array (List Nat) := #[[], [], [3], [], [3], [], [], [3]]
def f8A : Ann := ⟨fun r => f8K.getD r [], fun r => f8H.getD r [], fun r i => ([] : List (Nat × Nat)).contains (r, i)⟩
theorem f8C : compF Go.Proofs.Try.prog f8A 8 = some f8 := by kernel_rfl

/-- switchboard/load.Weight -/
abbrev f9o0 : List (Nat × Pop) := [
  (0, ⟨(some 2), .box 25 2 (.tmp 0), none⟩),
  (1, ⟨(some 4), .mv (.c (.t (.i .i64 0))), none⟩)]
abbrev f9r0 : Pc := .reg f9o0 [1, 2] []
abbrev f9o1 : List (Nat × Pop) := [
  (0, ⟨(some 5), .mv (.c (.t (.i .i64 0))), none⟩)]
abbrev f9r1 : Pc := .reg f9o1 [1, 2, 5] []
abbrev f9o2 : List (Nat × Pop) := [
  (0, ⟨(some 8), .fad 1 (.tmp 2), none⟩),
  (1, ⟨(some 9), .load false 1 (.tmp 8), none⟩),
  (2, ⟨(some 10), .lenL (.tmp 9), none⟩),
  (3, ⟨(some 11), .mv (.c (.t (.i .i64 0))), none⟩)]
abbrev f9r2 : Pc := .reg f9o2 [1, 5, 9, 10, 11] [2]
abbrev f9o3 : List (Nat × Pop) := [
  (0, ⟨(some 12), .bin .lss (.tmp 11) (.tmp 10), none⟩)]
abbrev f9r3 : Pc := .reg f9o3 [1, 5, 9, 10, 11, 12] []
abbrev f9o4 : List (Nat × Pop) := [
  (0, ⟨(some 13), .ixS 1 (.tmp 9) (.tmp 11), none⟩),
  (1, ⟨(some 14), .load false 1 (.tmp 13), none⟩),
  (2, ⟨(some 7), .mv (.tmp 14), none⟩)]
abbrev f9r4 : Pc := .reg f9o4 [1, 5, 7, 9, 10, 11] []
abbrev f9o5 : List (Nat × Pop) := [
  (0, ⟨(some 15), .mv (.tmp 1), none⟩),
  (1, ⟨(some 16), .bin .geq (.tmp 15) (.c (.t (.i .i64 1))), none⟩),
  (2, ⟨(some 17), .mv (.tmp 16), none⟩),
  (3, ⟨(some 18), .mv (.tmp 1), (some (17, true))⟩),
  (4, ⟨(some 19), .bin .leq (.tmp 18) (.c (.t (.i .i64 4))), (some (17, true))⟩),
  (5, ⟨(some 20), .pick (.tmp 17) (.tmp 19) (.c (.t (.b false))), none⟩),
  (6, ⟨(some 21), .mv (.tmp 20), none⟩),
  (7, ⟨(some 22), .mv (.tmp 7), (some (21, true))⟩),
  (8, ⟨(some 23), .mv (.tmp 1), (some (21, true))⟩),
  (9, ⟨(some 24), .call 20 [(.tmp 22), (.tmp 23)], (some (21, true))⟩),
  (10, ⟨(some 25), .pick (.tmp 21) (.tmp 24) (.c (.t (.b false))), none⟩)]
abbrev f9r5 : Pc := .reg f9o5 [1, 5, 9, 10, 11, 25] []
abbrev f9o6 : List (Nat × Pop) := [
  (0, ⟨(some 26), .mv (.tmp 5), none⟩),
  (1, ⟨(some 27), .bin .add (.tmp 26) (.c (.t (.i .i64 1))), none⟩),
  (2, ⟨(some 5), .mv (.tmp 27), none⟩)]
abbrev f9r6 : Pc := .reg f9o6 [1, 5, 9, 10, 11] []
abbrev f9o7 : List (Nat × Pop) := [
  (0, ⟨(some 28), .bin .add (.tmp 11) (.c (.t (.i .i64 1))), none⟩),
  (1, ⟨(some 11), .mv (.tmp 28), none⟩)]
abbrev f9r7 : Pc := .reg f9o7 [1, 5, 9, 10, 11] []
def f9l0 : Pc := (.seq f9r3 (.seq (.cond (.tmp 12) .skip (.exit 0)) (.seq (.block 1 (.seq f9r4 (.seq f9r5 (.cond (.tmp 25) f9r6 .skip)))) f9r7)))
theorem f9l0e (C : Cfg) (s : St) : evL C f9l0 s = evL C (.seq f9r3 (.seq (.cond (.tmp 12) .skip (.exit 0)) (.seq (.block 1 (.seq f9r4 (.seq f9r5 (.cond (.tmp 25) f9r6 .skip)))) f9r7))) s := rfl
abbrev f9o8 : List (Nat × Pop) := [
  (0, ⟨(some 29), .mv (.tmp 5), none⟩),
  (1, ⟨(some 4), .mv (.tmp 29), none⟩)]
abbrev f9r8 : Pc := .reg f9o8 [4] []
abbrev f9b : Pc := (.seq f9r0 (.seq f9r1 (.seq (.seq f9r2 (.block 0 (.loop f9l0))) (.seq f9r8 .ret))))
abbrev f9 : Pfn := ⟨2, 30, [.tmp 4], f9b⟩
def f9K : Array (List Nat) := #[[1, 2], [1, 2, 5], [1, 5, 9, 10, 11], [1, 5, 9, 10, 11, 12], [1, 5, 7, 9, 10, 11], [1, 5, 9, 10, 11, 25], [1, 5, 9, 10, 11], [1, 5, 9, 10, 11], [4]]
def f9H : Array (List Nat) := #[[], [], [2], [], [], [], [], [], []]
def f9A : Ann := ⟨fun r => f9K.getD r [], fun r => f9H.getD r [], fun r i => ([] : List (Nat × Nat)).contains (r, i)⟩
theorem f9C : compF Go.Proofs.Try.prog f9A 9 = some f9 := by kernel_rfl

/-- switchboard/place.Retire -/
abbrev f10o0 : List (Nat × Pop) := [
  (0, ⟨(some 3), .box 25 2 (.tmp 0), none⟩),
  (1, ⟨(some 5), .box 3 1 (.tmp 2), none⟩),
  (2, ⟨(some 6), .alloc 25 [(.t (.i .i64 0)), .nl], none⟩),
  (3, ⟨(some 7), .mv (.c (.t (.i .i64 0))), none⟩)]
abbrev f10r0 : Pc := .reg f10o0 [1, 3, 5, 6] []
abbrev f10o1 : List (Nat × Pop) := [
  (0, ⟨(some 9), .load true 2 (.tmp 3), none⟩),
  (1, ⟨(some 10), .mv (.tmp 1), none⟩),
  (2, ⟨(some 11), .load false 1 (.tmp 5), none⟩),
  (3, ⟨(some 12), .call 15 [(.tmp 9), (.tmp 10), (.tmp 11)], none⟩),
  (4, ⟨(some 13), .un .not (.tmp 12), none⟩),
  (5, ⟨(some 8), .mv (.tmp 13), none⟩)]
abbrev f10r1 : Pc := .reg f10o1 [1, 3, 5, 6, 8] []
abbrev f10o2 : List (Nat × Pop) := [
  (0, ⟨(some 14), .load true 2 (.tmp 3), none⟩),
  (1, ⟨none, .store 2 (.tmp 6) (.tmp 14), none⟩),
  (2, ⟨(some 7), .mv (.c (.t (.i .i64 1))), none⟩)]
abbrev f10r2 : Pc := .reg f10o2 [6, 7] [3]
abbrev f10o3 : List (Nat × Pop) := [
  (0, ⟨(some 16), .load true 2 (.tmp 3), none⟩),
  (1, ⟨(some 17), .mv (.tmp 1), none⟩),
  (2, ⟨(some 18), .load false 1 (.tmp 5), none⟩),
  (3, ⟨(some 19), .call 16 [(.tmp 16), (.tmp 17), (.tmp 18)], none⟩),
  (4, ⟨(some 20), .un .not (.tmp 19), none⟩),
  (5, ⟨(some 15), .mv (.tmp 20), none⟩)]
abbrev f10r3 : Pc := .reg f10o3 [1, 3, 5, 6, 15] []
abbrev f10o4 : List (Nat × Pop) := [
  (0, ⟨(some 21), .load true 2 (.tmp 3), none⟩),
  (1, ⟨none, .store 2 (.tmp 6) (.tmp 21), none⟩),
  (2, ⟨(some 7), .mv (.c (.t (.i .i64 4))), none⟩)]
abbrev f10r4 : Pc := .reg f10o4 [6, 7] [3]
abbrev f10o5 : List (Nat × Pop) := [
  (0, ⟨(some 23), .fad 1 (.tmp 3), none⟩),
  (1, ⟨(some 24), .load false 1 (.tmp 23), none⟩),
  (2, ⟨(some 25), .mv (.tmp 1), none⟩),
  (3, ⟨(some 26), .ixS 1 (.tmp 24) (.tmp 25), none⟩),
  (4, ⟨(some 27), .load false 1 (.tmp 26), none⟩),
  (5, ⟨(some 28), .lenL (.tmp 27), none⟩),
  (6, ⟨(some 29), .bin .eql (.tmp 28) (.c (.t (.i .i64 1))), none⟩),
  (7, ⟨(some 22), .mv (.tmp 29), none⟩)]
abbrev f10r5 : Pc := .reg f10o5 [1, 3, 5, 6, 22] []
abbrev f10o6 : List (Nat × Pop) := [
  (0, ⟨(some 30), .load true 2 (.tmp 3), none⟩),
  (1, ⟨none, .store 2 (.tmp 6) (.tmp 30), none⟩),
  (2, ⟨(some 7), .mv (.c (.t (.i .i64 7))), none⟩)]
abbrev f10r6 : Pc := .reg f10o6 [6, 7] [3]
abbrev f10o7 : List (Nat × Pop) := [
  (0, ⟨(some 31), .loadB true 2 (.tmp 3), none⟩),
  (1, ⟨(some 32), .mv (.tmp 1), none⟩),
  (2, ⟨(some 33), .fad 1 (.tmp 3), none⟩),
  (3, ⟨(some 34), .load false 1 (.tmp 33), none⟩),
  (4, ⟨(some 35), .mv (.tmp 1), none⟩),
  (5, ⟨(some 36), .ixS 1 (.tmp 34) (.tmp 35), none⟩),
  (6, ⟨(some 37), .load false 1 (.tmp 36), none⟩),
  (7, ⟨(some 38), .callo 17 [(.tmp 37)], none⟩),
  (8, ⟨(some 39), .mkfn 22 [(.tmp 5)], none⟩),
  (9, ⟨(some 40), .callR 21 [(.tmp 38), (.tmp 39)], none⟩),
  (10, ⟨(some 41), .callR 19 [(.tmp 31), (.tmp 32), (.tmp 40)], none⟩),
  (11, ⟨none, .store 2 (.tmp 6) (.tmp 41), none⟩),
  (12, ⟨(some 7), .mv (.c (.t (.i .i64 0))), none⟩)]
abbrev f10r7 : Pc := .reg f10o7 [6, 7] [3]
abbrev f10b : Pc := (.seq f10r0 (.seq (.block 0 (.seq f10r1 (.cond (.tmp 8) (.seq f10r2 .ret) (.seq f10r3 (.cond (.tmp 15) (.seq f10r4 .ret) (.seq f10r5 (.cond (.tmp 22) (.seq f10r6 .ret) .skip))))))) (.seq f10r7 .ret)))
abbrev f10 : Pfn := ⟨3, 42, [.cell 6 true 2, .tmp 7], f10b⟩
def f10K : Array (List Nat) := #[[1, 3, 5, 6], [1, 3, 5, 6, 8], [6, 7], [1, 3, 5, 6, 15], [6, 7], [1, 3, 5, 6, 22], [6, 7], [6, 7]]
def f10H : Array (List Nat) := #[[], [], [3], [], [3], [], [3], [3]]
def f10A : Ann := ⟨fun r => f10K.getD r [], fun r => f10H.getD r [], fun r i => ([(7, 7), (7, 1009), (7, 1010), (7, 0)] : List (Nat × Nat)).contains (r, i)⟩
theorem f10C : compF Go.Proofs.Try.prog f10A 10 = some f10 := by kernel_rfl

/-- switchboard/load.Note -/
abbrev f11o0 : List (Nat × Pop) := [
  (0, ⟨(some 4), .nilv 3 1, none⟩)]
abbrev f11r0 : Pc := .reg f11o0 [0, 1] [4, 7, 27]
abbrev f11o1 : List (Nat × Pop) := [
  (0, ⟨(some 6), .mv (.tmp 0), none⟩),
  (1, ⟨(some 7), .call 17 [(.tmp 6)], none⟩),
  (2, ⟨(some 5), .mv (.tmp 7), none⟩)]
abbrev f11r1 : Pc := .reg f11o1 [0, 1, 5] []
abbrev f11o2 : List (Nat × Pop) := [
  (0, ⟨(some 8), .mv (.tmp 1), none⟩),
  (1, ⟨(some 9), .bin .lss (.tmp 8) (.c (.t (.i .i64 0))), none⟩),
  (2, ⟨(some 10), .mv (.tmp 9), none⟩),
  (3, ⟨(some 11), .mv (.tmp 1), (some (10, false))⟩),
  (4, ⟨(some 12), .bin .geq (.tmp 11) (.c (.t (.i .i64 8))), (some (10, false))⟩),
  (5, ⟨(some 13), .pick (.tmp 10) (.c (.t (.b true))) (.tmp 12), none⟩),
  (6, ⟨(some 14), .mv (.tmp 13), none⟩),
  (7, ⟨(some 15), .mv (.tmp 0), (some (14, false))⟩),
  (8, ⟨(some 16), .mv (.tmp 1), (some (14, false))⟩),
  (9, ⟨(some 17), .call 12 [(.tmp 15), (.tmp 16)], (some (14, false))⟩),
  (10, ⟨(some 18), .bin .geq (.tmp 17) (.c (.t (.i .i64 2147483647))), (some (14, false))⟩),
  (11, ⟨(some 19), .pick (.tmp 14) (.c (.t (.b true))) (.tmp 18), none⟩)]
abbrev f11r2 : Pc := .reg f11o2 [1, 5, 19] []
abbrev f11o3 : List (Nat × Pop) := [
  (0, ⟨(some 20), .mv (.tmp 5), none⟩),
  (1, ⟨(some 4), .mv (.tmp 20), none⟩)]
abbrev f11r3 : Pc := .reg f11o3 [4] []
abbrev f11o4 : List (Nat × Pop) := [
  (0, ⟨(some 21), .mv (.tmp 5), none⟩),
  (1, ⟨(some 22), .lenL (.tmp 21), none⟩),
  (2, ⟨(some 23), .mv (.tmp 1), none⟩),
  (3, ⟨(some 24), .bin .leq (.tmp 22) (.tmp 23), none⟩)]
abbrev f11r4 : Pc := .reg f11o4 [1, 5, 24] []
abbrev f11o5 : List (Nat × Pop) := [
  (0, ⟨(some 25), .mv (.tmp 5), none⟩),
  (1, ⟨(some 26), .bslT 1 [(.c (.t (.i .i64 0)))], none⟩),
  (2, ⟨(some 27), .app 3 1 8 (.tmp 25) (.tmp 26), none⟩),
  (3, ⟨(some 5), .mv (.tmp 27), none⟩)]
abbrev f11r5 : Pc := .reg f11o5 [1, 5] []
def f11l0 : Pc := (.seq (.seq f11r4 (.cond (.tmp 24) .skip (.exit 0))) (.block 1 f11r5))
theorem f11l0e (C : Cfg) (s : St) : evL C f11l0 s = evL C (.seq (.seq f11r4 (.cond (.tmp 24) .skip (.exit 0))) (.block 1 f11r5)) s := rfl
abbrev f11o6 : List (Nat × Pop) := [
  (0, ⟨(some 28), .mv (.tmp 5), none⟩),
  (1, ⟨(some 29), .mv (.tmp 1), none⟩),
  (2, ⟨(some 30), .ixS 1 (.tmp 28) (.tmp 29), none⟩),
  (3, ⟨(some 31), .load false 1 (.tmp 30), none⟩),
  (4, ⟨(some 32), .bin .add (.tmp 31) (.c (.t (.i .i64 1))), none⟩),
  (5, ⟨(some 33), .ixS 1 (.tmp 28) (.tmp 29), none⟩),
  (6, ⟨none, .store 1 (.tmp 33) (.tmp 32), none⟩)]
abbrev f11r6 : Pc := .reg f11o6 [5] []
abbrev f11o7 : List (Nat × Pop) := [
  (0, ⟨(some 34), .mv (.tmp 5), none⟩),
  (1, ⟨(some 4), .mv (.tmp 34), none⟩)]
abbrev f11r7 : Pc := .reg f11o7 [4] []
abbrev f11b : Pc := (.seq f11r0 (.seq f11r1 (.seq (.seq f11r2 (.cond (.tmp 19) (.seq f11r3 .ret) .skip)) (.seq (.block 0 (.loop f11l0)) (.seq f11r6 (.seq f11r7 .ret))))))
abbrev f11 : Pfn := ⟨2, 35, [.tmp 4], f11b⟩
def f11K : Array (List Nat) := #[[0, 1], [0, 1, 5], [1, 5, 19], [4], [1, 5, 24], [1, 5], [5], [4]]
def f11H : Array (List Nat) := #[[4, 7, 27], [], [], [], [], [], [], []]
def f11A : Ann := ⟨fun r => f11K.getD r [], fun r => f11H.getD r [], fun r i => ([] : List (Nat × Nat)).contains (r, i)⟩
theorem f11C : compF Go.Proofs.Try.prog f11A 11 = some f11 := by kernel_rfl

/-- switchboard/load.Count -/
abbrev f12o0 : List (Nat × Pop) := [
  (0, ⟨(some 4), .mv (.c (.t (.i .i64 0))), none⟩)]
abbrev f12r0 : Pc := .reg f12o0 [0, 1] []
abbrev f12o1 : List (Nat × Pop) := [
  (0, ⟨(some 5), .mv (.tmp 1), none⟩),
  (1, ⟨(some 6), .bin .lss (.tmp 5) (.c (.t (.i .i64 0))), none⟩),
  (2, ⟨(some 7), .mv (.tmp 6), none⟩),
  (3, ⟨(some 8), .mv (.tmp 1), (some (7, false))⟩),
  (4, ⟨(some 9), .mv (.tmp 0), (some (7, false))⟩),
  (5, ⟨(some 10), .lenL (.tmp 9), (some (7, false))⟩),
  (6, ⟨(some 11), .bin .geq (.tmp 8) (.tmp 10), (some (7, false))⟩),
  (7, ⟨(some 12), .pick (.tmp 7) (.c (.t (.b true))) (.tmp 11), none⟩)]
abbrev f12r1 : Pc := .reg f12o1 [0, 1, 12] []
abbrev f12o2 : List (Nat × Pop) := [
  (0, ⟨(some 4), .mv (.c (.t (.i .i64 0))), none⟩)]
abbrev f12r2 : Pc := .reg f12o2 [4] []
abbrev f12o3 : List (Nat × Pop) := [
  (0, ⟨(some 13), .mv (.tmp 0), none⟩),
  (1, ⟨(some 14), .mv (.tmp 1), none⟩),
  (2, ⟨(some 15), .ixS 1 (.tmp 13) (.tmp 14), none⟩),
  (3, ⟨(some 16), .load false 1 (.tmp 15), none⟩),
  (4, ⟨(some 4), .mv (.tmp 16), none⟩)]
abbrev f12r3 : Pc := .reg f12o3 [4] []
abbrev f12b : Pc := (.seq f12r0 (.seq (.seq f12r1 (.cond (.tmp 12) (.seq f12r2 .ret) .skip)) (.seq f12r3 .ret)))
abbrev f12 : Pfn := ⟨2, 17, [.tmp 4], f12b⟩
def f12K : Array (List Nat) := #[[0, 1], [0, 1, 12], [4], [4]]
def f12H : Array (List Nat) := #[[], [], [], []]
def f12A : Ann := ⟨fun r => f12K.getD r [], fun r => f12H.getD r [], fun r i => ([] : List (Nat × Nat)).contains (r, i)⟩
theorem f12C : compF Go.Proofs.Try.prog f12A 12 = some f12 := by kernel_rfl

/-- switchboard/load.may -/
abbrev f13o0 : List (Nat × Pop) := [
  (0, ⟨(some 2), .box 25 2 (.tmp 0), none⟩),
  (1, ⟨(some 4), .mv (.c (.t (.b false))), none⟩)]
abbrev f13r0 : Pc := .reg f13o0 [1, 2] []
abbrev f13o1 : List (Nat × Pop) := [
  (0, ⟨(some 5), .load true 2 (.tmp 2), none⟩),
  (1, ⟨(some 6), .call 23 [(.tmp 5)], none⟩),
  (2, ⟨(some 7), .mv (.tmp 6), none⟩),
  (3, ⟨(some 8), .mv (.tmp 1), (some (7, true))⟩),
  (4, ⟨(some 9), .bin .geq (.tmp 8) (.c (.t (.i .i64 1))), (some (7, true))⟩),
  (5, ⟨(some 10), .pick (.tmp 7) (.tmp 9) (.c (.t (.b false))), none⟩),
  (6, ⟨(some 11), .mv (.tmp 10), none⟩),
  (7, ⟨(some 12), .mv (.tmp 1), (some (11, true))⟩),
  (8, ⟨(some 13), .bin .leq (.tmp 12) (.c (.t (.i .i64 2147483647))), (some (11, true))⟩),
  (9, ⟨(some 14), .pick (.tmp 11) (.tmp 13) (.c (.t (.b false))), none⟩),
  (10, ⟨(some 4), .mv (.tmp 14), none⟩)]
abbrev f13r1 : Pc := .reg f13o1 [4] [2]
abbrev f13b : Pc := (.seq f13r0 (.seq f13r1 .ret))
abbrev f13 : Pfn := ⟨2, 15, [.tmp 4], f13b⟩
def f13K : Array (List Nat) := #[[1, 2], [4]]
def f13H : Array (List Nat) := #[[], [2]]
def f13A : Ann := ⟨fun r => f13K.getD r [], fun r => f13H.getD r [], fun r i => ([] : List (Nat × Nat)).contains (r, i)⟩
theorem f13C : compF Go.Proofs.Try.prog f13A 13 = some f13 := by kernel_rfl

/-- switchboard/load.lightest -/
abbrev f14o0 : List (Nat × Pop) := [
  (0, ⟨(some 2), .box 25 2 (.tmp 0), none⟩),
  (1, ⟨(some 4), .mv (.c (.t (.i .i64 0))), none⟩)]
abbrev f14r0 : Pc := .reg f14o0 [1, 2] []
abbrev f14o1 : List (Nat × Pop) := [
  (0, ⟨(some 5), .mv (.c (.t (.i .i64 0))), none⟩)]
abbrev f14r1 : Pc := .reg f14o1 [1, 2, 5] []
abbrev f14o2 : List (Nat × Pop) := [
  (0, ⟨(some 6), .mv (.c (.t (.i .i64 1))), none⟩)]
abbrev f14r2 : Pc := .reg f14o2 [1, 2, 5, 6] []
abbrev f14o3 : List (Nat × Pop) := [
  (0, ⟨(some 7), .mv (.tmp 6), none⟩),
  (1, ⟨(some 8), .bin .leq (.tmp 7) (.c (.t (.i .i64 4))), none⟩)]
abbrev f14r3 : Pc := .reg f14o3 [1, 2, 5, 6, 8] []
abbrev f14o5 : List (Nat × Pop) := [
  (0, ⟨(some 11), .load true 2 (.tmp 2), none⟩),
  (1, ⟨(some 12), .mv (.tmp 1), none⟩),
  (2, ⟨(some 13), .mv (.tmp 6), none⟩),
  (3, ⟨(some 14), .call 16 [(.tmp 11), (.tmp 12), (.tmp 13)], none⟩)]
abbrev f14r5 : Pc := .reg f14o5 [1, 2, 5, 6, 14] []
abbrev f14o6 : List (Nat × Pop) := [
  (0, ⟨(some 15), .mv (.tmp 5), none⟩),
  (1, ⟨(some 16), .bin .eql (.tmp 15) (.c (.t (.i .i64 0))), none⟩),
  (2, ⟨(some 17), .mv (.tmp 16), none⟩),
  (3, ⟨(some 18), .load true 2 (.tmp 2), (some (17, false))⟩),
  (4, ⟨(some 19), .mv (.tmp 6), (some (17, false))⟩),
  (5, ⟨(some 20), .callq 9 [(.tmp 18), (.tmp 19)], (some (17, false))⟩),
  (6, ⟨(some 21), .load true 2 (.tmp 2), (some (17, false))⟩),
  (7, ⟨(some 22), .mv (.tmp 5), (some (17, false))⟩),
  (8, ⟨(some 23), .callq 9 [(.tmp 21), (.tmp 22)], (some (17, false))⟩),
  (9, ⟨(some 24), .bin .lss (.tmp 20) (.tmp 23), (some (17, false))⟩),
  (10, ⟨(some 25), .pick (.tmp 17) (.c (.t (.b true))) (.tmp 24), none⟩)]
abbrev f14r6 : Pc := .reg f14o6 [1, 2, 5, 6, 25] []
abbrev f14o7 : List (Nat × Pop) := [
  (0, ⟨(some 26), .mv (.tmp 6), none⟩),
  (1, ⟨(some 5), .mv (.tmp 26), none⟩)]
abbrev f14r7 : Pc := .reg f14o7 [1, 2, 5, 6] []
abbrev f14o4 : List (Nat × Pop) := [
  (0, ⟨(some 9), .mv (.tmp 6), none⟩),
  (1, ⟨(some 10), .bin .add (.tmp 9) (.c (.t (.i .i64 1))), none⟩),
  (2, ⟨(some 6), .mv (.tmp 10), none⟩)]
abbrev f14r4 : Pc := .reg f14o4 [1, 2, 5, 6] []
def f14l0 : Pc := (.seq (.seq f14r3 (.cond (.tmp 8) .skip (.exit 0))) (.seq (.block 1 (.seq (.seq f14r5 (.cond (.tmp 14) (.exit 1) .skip)) (.seq f14r6 (.cond (.tmp 25) f14r7 .skip)))) f14r4))
theorem f14l0e (C : Cfg) (s : St) : evL C f14l0 s = evL C (.seq (.seq f14r3 (.cond (.tmp 8) .skip (.exit 0))) (.seq (.block 1 (.seq (.seq f14r5 (.cond (.tmp 14) (.exit 1) .skip)) (.seq f14r6 (.cond (.tmp 25) f14r7 .skip)))) f14r4)) s := rfl
abbrev f14o8 : List (Nat × Pop) := [
  (0, ⟨(some 27), .mv (.tmp 5), none⟩),
  (1, ⟨(some 4), .mv (.tmp 27), none⟩)]
abbrev f14r8 : Pc := .reg f14o8 [4] [2]
abbrev f14b : Pc := (.seq f14r0 (.seq f14r1 (.seq (.seq f14r2 (.block 0 (.loop f14l0))) (.seq f14r8 .ret))))
abbrev f14 : Pfn := ⟨2, 28, [.tmp 4], f14b⟩
def f14K : Array (List Nat) := #[[1, 2], [1, 2, 5], [1, 2, 5, 6], [1, 2, 5, 6, 8], [1, 2, 5, 6], [1, 2, 5, 6, 14], [1, 2, 5, 6, 25], [1, 2, 5, 6], [4]]
def f14H : Array (List Nat) := #[[], [], [], [], [], [], [], [], [2]]
def f14A : Ann := ⟨fun r => f14K.getD r [], fun r => f14H.getD r [], fun r i => ([] : List (Nat × Nat)).contains (r, i)⟩
theorem f14C : compF Go.Proofs.Try.prog f14A 14 = some f14 := by kernel_rfl

/-- switchboard/place.may -/
abbrev f15o0 : List (Nat × Pop) := [
  (0, ⟨(some 3), .box 25 2 (.tmp 0), none⟩),
  (1, ⟨(some 6), .mv (.c (.t (.b false))), none⟩)]
abbrev f15r0 : Pc := .reg f15o0 [1, 2, 3] []
abbrev f15o1 : List (Nat × Pop) := [
  (0, ⟨(some 7), .load true 2 (.tmp 3), none⟩),
  (1, ⟨(some 8), .call 23 [(.tmp 7)], none⟩),
  (2, ⟨(some 9), .mv (.tmp 8), none⟩),
  (3, ⟨(some 10), .mv (.tmp 1), (some (9, true))⟩),
  (4, ⟨(some 11), .bin .geq (.tmp 10) (.c (.t (.i .i64 0))), (some (9, true))⟩),
  (5, ⟨(some 12), .pick (.tmp 9) (.tmp 11) (.c (.t (.b false))), none⟩),
  (6, ⟨(some 13), .mv (.tmp 12), none⟩),
  (7, ⟨(some 14), .mv (.tmp 1), (some (13, true))⟩),
  (8, ⟨(some 15), .fad 1 (.tmp 3), (some (13, true))⟩),
  (9, ⟨(some 16), .load false 1 (.tmp 15), (some (13, true))⟩),
  (10, ⟨(some 17), .lenL (.tmp 16), (some (13, true))⟩),
  (11, ⟨(some 18), .bin .lss (.tmp 14) (.tmp 17), (some (13, true))⟩),
  (12, ⟨(some 19), .pick (.tmp 13) (.tmp 18) (.c (.t (.b false))), none⟩),
  (13, ⟨(some 20), .mv (.tmp 19), none⟩),
  (14, ⟨(some 21), .mv (.tmp 2), (some (20, true))⟩),
  (15, ⟨(some 22), .bin .geq (.tmp 21) (.c (.t (.i .i64 1))), (some (20, true))⟩),
  (16, ⟨(some 23), .pick (.tmp 20) (.tmp 22) (.c (.t (.b false))), none⟩),
  (17, ⟨(some 24), .mv (.tmp 23), none⟩),
  (18, ⟨(some 25), .mv (.tmp 2), (some (24, true))⟩),
  (19, ⟨(some 26), .bin .leq (.tmp 25) (.c (.t (.i .i64 4))), (some (24, true))⟩),
  (20, ⟨(some 27), .pick (.tmp 24) (.tmp 26) (.c (.t (.b false))), none⟩),
  (21, ⟨(some 28), .mv (.tmp 27), none⟩),
  (22, ⟨(some 29), .fad 0 (.tmp 3), (some (28, true))⟩),
  (23, ⟨(some 30), .load false 1 (.tmp 29), (some (28, true))⟩),
  (24, ⟨(some 31), .bin .lss (.tmp 30) (.c (.t (.i .i64 2147483647))), (some (28, true))⟩),
  (25, ⟨(some 32), .pick (.tmp 28) (.tmp 31) (.c (.t (.b false))), none⟩),
  (26, ⟨(some 6), .mv (.tmp 32), none⟩)]
abbrev f15r1 : Pc := .reg f15o1 [6] [3]
abbrev f15b : Pc := (.seq f15r0 (.seq f15r1 .ret))
abbrev f15 : Pfn := ⟨3, 33, [.tmp 6], f15b⟩
def f15K : Array (List Nat) := #[[1, 2, 3], [6]]
def f15H : Array (List Nat) := #[[], [3]]
def f15A : Ann := ⟨fun r => f15K.getD r [], fun r => f15H.getD r [], fun r i => ([] : List (Nat × Nat)).contains (r, i)⟩
theorem f15C : compF Go.Proofs.Try.prog f15A 15 = some f15 := by kernel_rfl

/-- switchboard/place.Holds -/
abbrev f16o0 : List (Nat × Pop) := [
  (0, ⟨(some 3), .box 25 2 (.tmp 0), none⟩),
  (1, ⟨(some 6), .mv (.c (.t (.b false))), none⟩)]
abbrev f16r0 : Pc := .reg f16o0 [1, 2, 3] []
abbrev f16o1 : List (Nat × Pop) := [
  (0, ⟨(some 7), .mv (.tmp 1), none⟩),
  (1, ⟨(some 8), .bin .geq (.tmp 7) (.c (.t (.i .i64 0))), none⟩),
  (2, ⟨(some 9), .mv (.tmp 8), none⟩),
  (3, ⟨(some 10), .mv (.tmp 1), (some (9, true))⟩),
  (4, ⟨(some 11), .fad 1 (.tmp 3), (some (9, true))⟩),
  (5, ⟨(some 12), .load false 1 (.tmp 11), (some (9, true))⟩),
  (6, ⟨(some 13), .lenL (.tmp 12), (some (9, true))⟩),
  (7, ⟨(some 14), .bin .lss (.tmp 10) (.tmp 13), (some (9, true))⟩),
  (8, ⟨(some 15), .pick (.tmp 9) (.tmp 14) (.c (.t (.b false))), none⟩),
  (9, ⟨(some 16), .mv (.tmp 15), none⟩),
  (10, ⟨(some 17), .fad 1 (.tmp 3), (some (16, true))⟩),
  (11, ⟨(some 18), .load false 1 (.tmp 17), (some (16, true))⟩),
  (12, ⟨(some 19), .mv (.tmp 1), (some (16, true))⟩),
  (13, ⟨(some 20), .ixS 1 (.tmp 18) (.tmp 19), (some (16, true))⟩),
  (14, ⟨(some 21), .load false 1 (.tmp 20), (some (16, true))⟩),
  (15, ⟨(some 22), .mv (.tmp 2), (some (16, true))⟩),
  (16, ⟨(some 23), .call 20 [(.tmp 21), (.tmp 22)], (some (16, true))⟩),
  (17, ⟨(some 24), .pick (.tmp 16) (.tmp 23) (.c (.t (.b false))), none⟩),
  (18, ⟨(some 6), .mv (.tmp 24), none⟩)]
abbrev f16r1 : Pc := .reg f16o1 [6] [3]
abbrev f16b : Pc := (.seq f16r0 (.seq f16r1 .ret))
abbrev f16 : Pfn := ⟨3, 25, [.tmp 6], f16b⟩
def f16K : Array (List Nat) := #[[1, 2, 3], [6]]
def f16H : Array (List Nat) := #[[], [3]]
def f16A : Ann := ⟨fun r => f16K.getD r [], fun r => f16H.getD r [], fun r i => ([] : List (Nat × Nat)).contains (r, i)⟩
theorem f16C : compF Go.Proofs.Try.prog f16A 16 = some f16 := by kernel_rfl

/-- slices.Clone[[]int,int] -/
abbrev f17o0 : List (Nat × Pop) := [
  (0, ⟨(some 2), .nilv 3 1, none⟩)]
abbrev f17r0 : Pc := .reg f17o0 [0] [2, 5, 7]
abbrev f17o1 : List (Nat × Pop) := [
  (0, ⟨(some 3), .mv (.tmp 0), none⟩),
  (1, ⟨(some 4), .isnilS false (.tmp 3), none⟩)]
abbrev f17r1 : Pc := .reg f17o1 [0, 4] []
abbrev f17o2 : List (Nat × Pop) := [
  (0, ⟨(some 2), .nilv 3 1, none⟩)]
abbrev f17r2 : Pc := .reg f17o2 [2] []
abbrev f17o3 : List (Nat × Pop) := [
  (0, ⟨(some 5), .bslO 3 1 [], none⟩),
  (1, ⟨(some 6), .mv (.tmp 0), none⟩),
  (2, ⟨(some 7), .app 3 1 8 (.tmp 5) (.tmp 6), none⟩),
  (3, ⟨(some 2), .mv (.tmp 7), none⟩)]
abbrev f17r3 : Pc := .reg f17o3 [2] []
abbrev f17b : Pc := (.seq f17r0 (.seq (.seq f17r1 (.cond (.tmp 4) (.seq f17r2 .ret) .skip)) (.seq f17r3 .ret)))
abbrev f17 : Pfn := ⟨1, 8, [.tmp 2], f17b⟩
def f17K : Array (List Nat) := #[[0], [0, 4], [2], [2]]
def f17H : Array (List Nat) := #[[2, 5, 7], [], [], []]
def f17A : Ann := ⟨fun r => f17K.getD r [], fun r => f17H.getD r [], fun r i => ([(3, 0)] : List (Nat × Nat)).contains (r, i)⟩
theorem f17C : compF Go.Proofs.Try.prog f17A 17 = some f17 := by kernel_rfl

/-- switchboard/place.turned -/
abbrev f19o0 : List (Nat × Pop) := [
  (0, ⟨(some 3), .box 25 2 (.tmp 0), none⟩),
  (1, ⟨(some 6), .alloc 25 [(.t (.i .i64 0)), .nl], none⟩)]
abbrev f19r0 : Pc := .reg f19o0 [1, 2, 3, 6] []
abbrev f19o1 : List (Nat × Pop) := [
  (0, ⟨(some 8), .fad 0 (.tmp 3), none⟩),
  (1, ⟨(some 9), .load false 1 (.tmp 8), none⟩),
  (2, ⟨(some 10), .bin .add (.tmp 9) (.c (.t (.i .i64 1))), none⟩),
  (3, ⟨(some 11), .fad 1 (.tmp 3), none⟩),
  (4, ⟨(some 12), .load false 1 (.tmp 11), none⟩),
  (5, ⟨(some 13), .callo 26 [(.tmp 12)], none⟩),
  (6, ⟨(some 14), .build [(.t (.i .i64 0)), .nl] [(0, 1, (.tmp 10)), (1, 1, (.tmp 13))], none⟩),
  (7, ⟨(some 7), .alloc 25 [(.t (.i .i64 0)), .nl], none⟩),
  (8, ⟨none, .store 2 (.tmp 7) (.tmp 14), none⟩)]
abbrev f19r1 : Pc := .reg f19o1 [1, 2, 6, 7] [3]
abbrev f19o2 : List (Nat × Pop) := [
  (0, ⟨(some 15), .fad 1 (.tmp 7), none⟩),
  (1, ⟨(some 16), .load false 1 (.tmp 15), none⟩),
  (2, ⟨(some 17), .mv (.tmp 1), none⟩),
  (3, ⟨(some 18), .mv (.tmp 2), none⟩),
  (4, ⟨(some 19), .ixS 1 (.tmp 16) (.tmp 17), none⟩),
  (5, ⟨none, .store 1 (.tmp 19) (.tmp 18), none⟩)]
abbrev f19r2 : Pc := .reg f19o2 [6, 7] []
abbrev f19o3 : List (Nat × Pop) := [
  (0, ⟨(some 20), .load true 2 (.tmp 7), none⟩),
  (1, ⟨none, .store 2 (.tmp 6) (.tmp 20), none⟩)]
abbrev f19r3 : Pc := .reg f19o3 [6] [7]
abbrev f19b : Pc := (.seq f19r0 (.seq f19r1 (.seq f19r2 (.seq f19r3 .ret))))
abbrev f19 : Pfn := ⟨3, 21, [.cell 6 true 2], f19b⟩
def f19K : Array (List Nat) := #[[1, 2, 3, 6], [1, 2, 6, 7], [6, 7], [6]]
def f19H : Array (List Nat) := #[[], [3], [], [7]]
def f19A : Ann := ⟨fun r => f19K.getD r [], fun r => f19H.getD r [], fun r i => ([(1, 5)] : List (Nat × Nat)).contains (r, i)⟩
theorem f19C : compF Go.Proofs.Try.prog f19A 19 = some f19 := by kernel_rfl

/-- slices.Contains[[]int,int] -/
abbrev f20o0 : List (Nat × Pop) := [
  (0, ⟨(some 4), .mv (.c (.t (.b false))), none⟩)]
abbrev f20r0 : Pc := .reg f20o0 [0, 1] []
abbrev f20o1 : List (Nat × Pop) := [
  (0, ⟨(some 5), .mv (.tmp 0), none⟩),
  (1, ⟨(some 6), .mv (.tmp 1), none⟩),
  (2, ⟨(some 7), .call 27 [(.tmp 5), (.tmp 6)], none⟩),
  (3, ⟨(some 8), .bin .geq (.tmp 7) (.c (.t (.i .i64 0))), none⟩),
  (4, ⟨(some 4), .mv (.tmp 8), none⟩)]
abbrev f20r1 : Pc := .reg f20o1 [4] []
abbrev f20b : Pc := (.seq f20r0 (.seq f20r1 .ret))
abbrev f20 : Pfn := ⟨2, 9, [.tmp 4], f20b⟩
def f20K : Array (List Nat) := #[[0, 1], [4]]
def f20H : Array (List Nat) := #[[], []]
def f20A : Ann := ⟨fun r => f20K.getD r [], fun r => f20H.getD r [], fun r i => ([] : List (Nat × Nat)).contains (r, i)⟩
theorem f20C : compF Go.Proofs.Try.prog f20A 20 = some f20 := by kernel_rfl

/-- slices.DeleteFunc[[]int,int] -/
abbrev f21o0 : List (Nat × Pop) := [
  (0, ⟨(some 4), .nilv 3 1, none⟩)]
abbrev f21r0 : Pc := .reg f21o0 [0, 1] [4]
abbrev f21o1 : List (Nat × Pop) := [
  (0, ⟨(some 8), .mv (.tmp 0), none⟩),
  (1, ⟨(some 9), .mv (.tmp 1), none⟩),
  (2, ⟨(some 10), .call 28 [(.tmp 8), (.tmp 9)], none⟩),
  (3, ⟨(some 5), .mv (.tmp 10), none⟩)]
abbrev f21r1 : Pc := .reg f21o1 [0, 1, 5] []
abbrev f21o2 : List (Nat × Pop) := [
  (0, ⟨(some 11), .mv (.tmp 5), none⟩),
  (1, ⟨(some 12), .bin .eql (.tmp 11) (.c (.t (.i .i64 (-1)))), none⟩)]
abbrev f21r2 : Pc := .reg f21o2 [0, 1, 5, 12] []
abbrev f21o3 : List (Nat × Pop) := [
  (0, ⟨(some 13), .mv (.tmp 0), none⟩),
  (1, ⟨(some 4), .mv (.tmp 13), none⟩)]
abbrev f21r3 : Pc := .reg f21o3 [4] []
abbrev f21o4 : List (Nat × Pop) := [
  (0, ⟨(some 14), .mv (.tmp 5), none⟩),
  (1, ⟨(some 15), .bin .add (.tmp 14) (.c (.t (.i .i64 1))), none⟩),
  (2, ⟨(some 6), .mv (.tmp 15), none⟩)]
abbrev f21r4 : Pc := .reg f21o4 [0, 1, 5, 6] []
abbrev f21o5 : List (Nat × Pop) := [
  (0, ⟨(some 16), .mv (.tmp 6), none⟩),
  (1, ⟨(some 17), .mv (.tmp 0), none⟩),
  (2, ⟨(some 18), .lenL (.tmp 17), none⟩),
  (3, ⟨(some 19), .bin .lss (.tmp 16) (.tmp 18), none⟩)]
abbrev f21r5 : Pc := .reg f21o5 [0, 1, 5, 6, 19] []
abbrev f21o7 : List (Nat × Pop) := [
  (0, ⟨(some 22), .mv (.tmp 0), none⟩),
  (1, ⟨(some 23), .mv (.tmp 6), none⟩),
  (2, ⟨(some 24), .ixS 1 (.tmp 22) (.tmp 23), none⟩),
  (3, ⟨(some 25), .load false 1 (.tmp 24), none⟩),
  (4, ⟨(some 7), .mv (.tmp 25), none⟩)]
abbrev f21r7 : Pc := .reg f21o7 [0, 1, 5, 6, 7] []
abbrev f21o8 : List (Nat × Pop) := [
  (0, ⟨(some 26), .mv (.tmp 1), none⟩),
  (1, ⟨(some 27), .mv (.tmp 7), none⟩),
  (2, ⟨(some 28), .callv (.tmp 26) [(.tmp 27)], none⟩),
  (3, ⟨(some 29), .un .not (.tmp 28), none⟩)]
abbrev f21r8 : Pc := .reg f21o8 [0, 1, 5, 6, 7, 29] []
abbrev f21o9 : List (Nat × Pop) := [
  (0, ⟨(some 30), .mv (.tmp 0), none⟩),
  (1, ⟨(some 31), .mv (.tmp 5), none⟩),
  (2, ⟨(some 32), .mv (.tmp 7), none⟩),
  (3, ⟨(some 33), .ixS 1 (.tmp 30) (.tmp 31), none⟩),
  (4, ⟨none, .store 1 (.tmp 33) (.tmp 32), none⟩)]
abbrev f21r9 : Pc := .reg f21o9 [0, 1, 5, 6] []
abbrev f21o10 : List (Nat × Pop) := [
  (0, ⟨(some 34), .mv (.tmp 5), none⟩),
  (1, ⟨(some 35), .bin .add (.tmp 34) (.c (.t (.i .i64 1))), none⟩),
  (2, ⟨(some 5), .mv (.tmp 35), none⟩)]
abbrev f21r10 : Pc := .reg f21o10 [0, 1, 5, 6] []
abbrev f21o6 : List (Nat × Pop) := [
  (0, ⟨(some 20), .mv (.tmp 6), none⟩),
  (1, ⟨(some 21), .bin .add (.tmp 20) (.c (.t (.i .i64 1))), none⟩),
  (2, ⟨(some 6), .mv (.tmp 21), none⟩)]
abbrev f21r6 : Pc := .reg f21o6 [0, 1, 5, 6] []
def f21l0 : Pc := (.seq (.seq f21r5 (.cond (.tmp 19) .skip (.exit 0))) (.seq (.block 1 (.seq f21r7 (.seq f21r8 (.cond (.tmp 29) (.seq f21r9 f21r10) .skip)))) f21r6))
theorem f21l0e (C : Cfg) (s : St) : evL C f21l0 s = evL C (.seq (.seq f21r5 (.cond (.tmp 19) .skip (.exit 0))) (.seq (.block 1 (.seq f21r7 (.seq f21r8 (.cond (.tmp 29) (.seq f21r9 f21r10) .skip)))) f21r6)) s := rfl
abbrev f21o11 : List (Nat × Pop) := [
  (0, ⟨(some 36), .mv (.tmp 0), none⟩),
  (1, ⟨(some 37), .mv (.tmp 5), none⟩),
  (2, ⟨(some 38), .sls 1 (.tmp 36) (some (.tmp 37)) none, none⟩),
  (3, ⟨none, .clr 1 (.tmp 38), none⟩)]
abbrev f21r11 : Pc := .reg f21o11 [0, 5] []
abbrev f21o12 : List (Nat × Pop) := [
  (0, ⟨(some 39), .mv (.tmp 0), none⟩),
  (1, ⟨(some 40), .mv (.tmp 5), none⟩),
  (2, ⟨(some 41), .sls 1 (.tmp 39) none (some (.tmp 40)), none⟩),
  (3, ⟨(some 4), .mv (.tmp 41), none⟩)]
abbrev f21r12 : Pc := .reg f21o12 [4] []
abbrev f21b : Pc := (.seq f21r0 (.seq f21r1 (.seq (.seq f21r2 (.cond (.tmp 12) (.seq f21r3 .ret) .skip)) (.seq (.seq f21r4 (.block 0 (.loop f21l0))) (.seq f21r11 (.seq f21r12 .ret))))))
abbrev f21 : Pfn := ⟨2, 42, [.tmp 4], f21b⟩
def f21K : Array (List Nat) := #[[0, 1], [0, 1, 5], [0, 1, 5, 12], [4], [0, 1, 5, 6], [0, 1, 5, 6, 19], [0, 1, 5, 6], [0, 1, 5, 6, 7], [0, 1, 5, 6, 7, 29], [0, 1, 5, 6], [0, 1, 5, 6], [0, 5], [4]]
def f21H : Array (List Nat) := #[[4], [], [], [], [], [], [], [], [], [], [], [], []]
def f21A : Ann := ⟨fun r => f21K.getD r [], fun r => f21H.getD r [], fun r i => ([] : List (Nat × Nat)).contains (r, i)⟩
theorem f21C : compF Go.Proofs.Try.prog f21A 21 = some f21 := by kernel_rfl

/-- switchboard/place.Retire$1 -/
abbrev f22o0 : List (Nat × Pop) := [
  (0, ⟨(some 3), .mv (.c (.t (.b false))), none⟩)]
abbrev f22r0 : Pc := .reg f22o0 [0, 1] []
abbrev f22o1 : List (Nat × Pop) := [
  (0, ⟨(some 4), .mv (.tmp 0), none⟩),
  (1, ⟨(some 5), .load false 1 (.tmp 1), none⟩),
  (2, ⟨(some 6), .bin .eql (.tmp 4) (.tmp 5), none⟩),
  (3, ⟨(some 3), .mv (.tmp 6), none⟩)]
abbrev f22r1 : Pc := .reg f22o1 [3] []
abbrev f22b : Pc := (.seq f22r0 (.seq f22r1 .ret))
abbrev f22 : Pfn := ⟨2, 7, [.tmp 3], f22b⟩
def f22K : Array (List Nat) := #[[0, 1], [3]]
def f22H : Array (List Nat) := #[[], []]
def f22A : Ann := ⟨fun r => f22K.getD r [], fun r => f22H.getD r [], fun r i => ([] : List (Nat × Nat)).contains (r, i)⟩
theorem f22C : compF Go.Proofs.Try.prog f22A 22 = some f22 := by kernel_rfl

/-- switchboard/place.Right -/
abbrev f23o0 : List (Nat × Pop) := [
  (0, ⟨(some 1), .box 25 2 (.tmp 0), none⟩),
  (1, ⟨(some 2), .mv (.c (.t (.b false))), none⟩)]
abbrev f23r0 : Pc := .reg f23o0 [1] []
abbrev f23o1 : List (Nat × Pop) := [
  (0, ⟨(some 8), .fad 1 (.tmp 1), none⟩),
  (1, ⟨(some 9), .load false 1 (.tmp 8), none⟩),
  (2, ⟨(some 10), .lenL (.tmp 9), none⟩),
  (3, ⟨(some 11), .mv (.c (.t (.i .i64 0))), none⟩)]
abbrev f23r1 : Pc := .reg f23o1 [1, 9, 10, 11] []
abbrev f23o2 : List (Nat × Pop) := [
  (0, ⟨(some 12), .bin .lss (.tmp 11) (.tmp 10), none⟩)]
abbrev f23r2 : Pc := .reg f23o2 [1, 9, 10, 11, 12] []
abbrev f23o3 : List (Nat × Pop) := [
  (0, ⟨(some 13), .ixS 1 (.tmp 9) (.tmp 11), none⟩),
  (1, ⟨(some 14), .load false 1 (.tmp 13), none⟩),
  (2, ⟨(some 4), .mv (.tmp 14), none⟩)]
abbrev f23r3 : Pc := .reg f23o3 [1, 4, 9, 10, 11] []
abbrev f23o4 : List (Nat × Pop) := [
  (0, ⟨(some 5), .mv (.c (.t (.i .i64 0))), none⟩)]
abbrev f23r4 : Pc := .reg f23o4 [1, 4, 5, 9, 10, 11] []
abbrev f23o5 : List (Nat × Pop) := [
  (0, ⟨(some 15), .mv (.tmp 4), none⟩),
  (1, ⟨(some 16), .lenL (.tmp 15), none⟩),
  (2, ⟨(some 17), .mv (.c (.t (.i .i64 0))), none⟩)]
abbrev f23r5 : Pc := .reg f23o5 [1, 4, 5, 9, 10, 11, 15, 16, 17] []
abbrev f23o6 : List (Nat × Pop) := [
  (0, ⟨(some 18), .bin .lss (.tmp 17) (.tmp 16), none⟩)]
abbrev f23r6 : Pc := .reg f23o6 [1, 4, 5, 9, 10, 11, 15, 16, 17, 18] []
abbrev f23o7 : List (Nat × Pop) := [
  (0, ⟨(some 19), .ixS 1 (.tmp 15) (.tmp 17), none⟩),
  (1, ⟨(some 20), .load false 1 (.tmp 19), none⟩),
  (2, ⟨(some 7), .mv (.tmp 20), none⟩)]
abbrev f23r7 : Pc := .reg f23o7 [1, 4, 5, 7, 9, 10, 11, 15, 16, 17] []
abbrev f23o8 : List (Nat × Pop) := [
  (0, ⟨(some 21), .mv (.tmp 7), none⟩),
  (1, ⟨(some 22), .mv (.tmp 5), none⟩),
  (2, ⟨(some 23), .bin .leq (.tmp 21) (.tmp 22), none⟩),
  (3, ⟨(some 24), .mv (.tmp 23), none⟩),
  (4, ⟨(some 25), .mv (.tmp 7), (some (24, false))⟩),
  (5, ⟨(some 26), .bin .gtr (.tmp 25) (.c (.t (.i .i64 4))), (some (24, false))⟩),
  (6, ⟨(some 27), .pick (.tmp 24) (.c (.t (.b true))) (.tmp 26), none⟩)]
abbrev f23r8 : Pc := .reg f23o8 [1, 4, 7, 9, 10, 11, 15, 16, 17, 27] []
abbrev f23o9 : List (Nat × Pop) := [
  (0, ⟨(some 2), .mv (.c (.t (.b false))), none⟩)]
abbrev f23r9 : Pc := .reg f23o9 [2] [1]
abbrev f23o10 : List (Nat × Pop) := [
  (0, ⟨(some 28), .mv (.tmp 7), none⟩),
  (1, ⟨(some 5), .mv (.tmp 28), none⟩)]
abbrev f23r10 : Pc := .reg f23o10 [1, 4, 5, 9, 10, 11, 15, 16, 17] []
abbrev f23o11 : List (Nat × Pop) := [
  (0, ⟨(some 29), .bin .add (.tmp 17) (.c (.t (.i .i64 1))), none⟩),
  (1, ⟨(some 17), .mv (.tmp 29), none⟩)]
abbrev f23r11 : Pc := .reg f23o11 [1, 4, 5, 9, 10, 11, 15, 16, 17] []
def f23l0 : Pc := (.seq f23r6 (.seq (.cond (.tmp 18) .skip (.exit 2)) (.seq (.block 3 (.seq f23r7 (.seq (.seq f23r8 (.cond (.tmp 27) (.seq f23r9 .ret) .skip)) f23r10))) f23r11)))
theorem f23l0e (C : Cfg) (s : St) : evL C f23l0 s = evL C (.seq f23r6 (.seq (.cond (.tmp 18) .skip (.exit 2)) (.seq (.block 3 (.seq f23r7 (.seq (.seq f23r8 (.cond (.tmp 27) (.seq f23r9 .ret) .skip)) f23r10))) f23r11))) s := rfl
abbrev f23o12 : List (Nat × Pop) := [
  (0, ⟨(some 30), .mv (.tmp 4), none⟩),
  (1, ⟨(some 31), .lenL (.tmp 30), none⟩),
  (2, ⟨(some 32), .bin .eql (.tmp 31) (.c (.t (.i .i64 0))), none⟩)]
abbrev f23r12 : Pc := .reg f23o12 [1, 9, 10, 11, 32] []
abbrev f23o13 : List (Nat × Pop) := [
  (0, ⟨(some 2), .mv (.c (.t (.b false))), none⟩)]
abbrev f23r13 : Pc := .reg f23o13 [2] [1]
abbrev f23o14 : List (Nat × Pop) := [
  (0, ⟨(some 33), .bin .add (.tmp 11) (.c (.t (.i .i64 1))), none⟩),
  (1, ⟨(some 11), .mv (.tmp 33), none⟩)]
abbrev f23r14 : Pc := .reg f23o14 [1, 9, 10, 11] []
def f23l1 : Pc := (.seq f23r2 (.seq (.cond (.tmp 12) .skip (.exit 0)) (.seq (.block 1 (.seq f23r3 (.seq f23r4 (.seq (.seq f23r5 (.block 2 (.loop f23l0))) (.seq f23r12 (.cond (.tmp 32) (.seq f23r13 .ret) .skip)))))) f23r14)))
theorem f23l1e (C : Cfg) (s : St) : evL C f23l1 s = evL C (.seq f23r2 (.seq (.cond (.tmp 12) .skip (.exit 0)) (.seq (.block 1 (.seq f23r3 (.seq f23r4 (.seq (.seq f23r5 (.block 2 (.loop f23l0))) (.seq f23r12 (.cond (.tmp 32) (.seq f23r13 .ret) .skip)))))) f23r14))) s := rfl
abbrev f23o15 : List (Nat × Pop) := [
  (0, ⟨(some 34), .fad 0 (.tmp 1), none⟩),
  (1, ⟨(some 35), .load false 1 (.tmp 34), none⟩),
  (2, ⟨(some 36), .bin .geq (.tmp 35) (.c (.t (.i .i64 0))), none⟩),
  (3, ⟨(some 37), .mv (.tmp 36), none⟩),
  (4, ⟨(some 38), .fad 0 (.tmp 1), (some (37, true))⟩),
  (5, ⟨(some 39), .load false 1 (.tmp 38), (some (37, true))⟩),
  (6, ⟨(some 40), .bin .leq (.tmp 39) (.c (.t (.i .i64 2147483647))), (some (37, true))⟩),
  (7, ⟨(some 41), .pick (.tmp 37) (.tmp 40) (.c (.t (.b false))), none⟩),
  (8, ⟨(some 42), .mv (.tmp 41), none⟩),
  (9, ⟨(some 43), .fad 1 (.tmp 1), (some (42, true))⟩),
  (10, ⟨(some 44), .load false 1 (.tmp 43), (some (42, true))⟩),
  (11, ⟨(some 45), .lenL (.tmp 44), (some (42, true))⟩),
  (12, ⟨(some 46), .bin .leq (.tmp 45) (.c (.t (.i .i64 8))), (some (42, true))⟩),
  (13, ⟨(some 47), .pick (.tmp 42) (.tmp 46) (.c (.t (.b false))), none⟩),
  (14, ⟨(some 2), .mv (.tmp 47), none⟩)]
abbrev f23r15 : Pc := .reg f23o15 [2] [1]
abbrev f23b : Pc := (.seq f23r0 (.seq (.seq f23r1 (.block 0 (.loop f23l1))) (.seq f23r15 .ret)))
abbrev f23 : Pfn := ⟨1, 48, [.tmp 2], f23b⟩
def f23K : Array (List Nat) := #[[1], [1, 9, 10, 11], [1, 9, 10, 11, 12], [1, 4, 9, 10, 11], [1, 4, 5, 9, 10, 11], [1, 4, 5, 9, 10, 11, 15, 16, 17], [1, 4, 5, 9, 10, 11, 15, 16, 17, 18], [1, 4, 5, 7, 9, 10, 11, 15, 16, 17], [1, 4, 7, 9, 10, 11, 15, 16, 17, 27], [2], [1, 4, 5, 9, 10, 11, 15, 16, 17], [1, 4, 5, 9, 10, 11, 15, 16, 17], [1, 9, 10, 11, 32], [2], [1, 9, 10, 11], [2]]
def f23H : Array (List Nat) := #[[], [], [], [], [], [], [], [], [], [1], [], [], [], [1], [], [1]]
def f23A : Ann := ⟨fun r => f23K.getD r [], fun r => f23H.getD r [], fun r i => ([] : List (Nat × Nat)).contains (r, i)⟩
theorem f23C : compF Go.Proofs.Try.prog f23A 23 = some f23 := by kernel_rfl

/-- slices.Clone[[][]int,[]int] -/
abbrev f26o0 : List (Nat × Pop) := [
  (0, ⟨(some 2), .nilv 22 1, none⟩)]
abbrev f26r0 : Pc := .reg f26o0 [0] [2, 5, 7]
abbrev f26o1 : List (Nat × Pop) := [
  (0, ⟨(some 3), .mv (.tmp 0), none⟩),
  (1, ⟨(some 4), .isnilS false (.tmp 3), none⟩)]
abbrev f26r1 : Pc := .reg f26o1 [0, 4] []
abbrev f26o2 : List (Nat × Pop) := [
  (0, ⟨(some 2), .nilv 22 1, none⟩)]
abbrev f26r2 : Pc := .reg f26o2 [2] []
abbrev f26o3 : List (Nat × Pop) := [
  (0, ⟨(some 5), .bslO 22 1 [], none⟩),
  (1, ⟨(some 6), .mv (.tmp 0), none⟩),
  (2, ⟨(some 7), .app 22 1 24 (.tmp 5) (.tmp 6), none⟩),
  (3, ⟨(some 2), .mv (.tmp 7), none⟩)]
abbrev f26r3 : Pc := .reg f26o3 [2] []
abbrev f26b : Pc := (.seq f26r0 (.seq (.seq f26r1 (.cond (.tmp 4) (.seq f26r2 .ret) .skip)) (.seq f26r3 .ret)))
abbrev f26 : Pfn := ⟨1, 8, [.tmp 2], f26b⟩
def f26K : Array (List Nat) := #[[0], [0, 4], [2], [2]]
def f26H : Array (List Nat) := #[[2, 5, 7], [], [], []]
def f26A : Ann := ⟨fun r => f26K.getD r [], fun r => f26H.getD r [], fun r i => ([(3, 0)] : List (Nat × Nat)).contains (r, i)⟩
theorem f26C : compF Go.Proofs.Try.prog f26A 26 = some f26 := by kernel_rfl

/-- slices.Index[[]int,int] -/
abbrev f27o0 : List (Nat × Pop) := [
  (0, ⟨(some 4), .mv (.c (.t (.i .i64 0))), none⟩)]
abbrev f27r0 : Pc := .reg f27o0 [0, 1] []
abbrev f27o1 : List (Nat × Pop) := [
  (0, ⟨(some 6), .mv (.tmp 0), none⟩),
  (1, ⟨(some 7), .lenL (.tmp 6), none⟩),
  (2, ⟨(some 8), .mv (.c (.t (.i .i64 0))), none⟩)]
abbrev f27r1 : Pc := .reg f27o1 [0, 1, 7, 8] []
abbrev f27o2 : List (Nat × Pop) := [
  (0, ⟨(some 9), .bin .lss (.tmp 8) (.tmp 7), none⟩)]
abbrev f27r2 : Pc := .reg f27o2 [0, 1, 7, 8, 9] []
abbrev f27o3 : List (Nat × Pop) := [
  (0, ⟨(some 10), .mv (.tmp 8), none⟩),
  (1, ⟨(some 5), .mv (.tmp 10), none⟩)]
abbrev f27r3 : Pc := .reg f27o3 [0, 1, 5, 7, 8] []
abbrev f27o4 : List (Nat × Pop) := [
  (0, ⟨(some 11), .mv (.tmp 1), none⟩),
  (1, ⟨(some 12), .mv (.tmp 0), none⟩),
  (2, ⟨(some 13), .mv (.tmp 5), none⟩),
  (3, ⟨(some 14), .ixS 1 (.tmp 12) (.tmp 13), none⟩),
  (4, ⟨(some 15), .load false 1 (.tmp 14), none⟩),
  (5, ⟨(some 16), .bin .eql (.tmp 11) (.tmp 15), none⟩)]
abbrev f27r4 : Pc := .reg f27o4 [0, 1, 5, 7, 8, 16] []
abbrev f27o5 : List (Nat × Pop) := [
  (0, ⟨(some 17), .mv (.tmp 5), none⟩),
  (1, ⟨(some 4), .mv (.tmp 17), none⟩)]
abbrev f27r5 : Pc := .reg f27o5 [4] []
abbrev f27o6 : List (Nat × Pop) := [
  (0, ⟨(some 18), .bin .add (.tmp 8) (.c (.t (.i .i64 1))), none⟩),
  (1, ⟨(some 8), .mv (.tmp 18), none⟩)]
abbrev f27r6 : Pc := .reg f27o6 [0, 1, 7, 8] []
def f27l0 : Pc := (.seq f27r2 (.seq (.cond (.tmp 9) .skip (.exit 0)) (.seq (.block 1 (.seq f27r3 (.seq f27r4 (.cond (.tmp 16) (.seq f27r5 .ret) .skip)))) f27r6)))
theorem f27l0e (C : Cfg) (s : St) : evL C f27l0 s = evL C (.seq f27r2 (.seq (.cond (.tmp 9) .skip (.exit 0)) (.seq (.block 1 (.seq f27r3 (.seq f27r4 (.cond (.tmp 16) (.seq f27r5 .ret) .skip)))) f27r6))) s := rfl
abbrev f27o7 : List (Nat × Pop) := [
  (0, ⟨(some 4), .mv (.c (.t (.i .i64 (-1)))), none⟩)]
abbrev f27r7 : Pc := .reg f27o7 [4] []
abbrev f27b : Pc := (.seq f27r0 (.seq (.seq f27r1 (.block 0 (.loop f27l0))) (.seq f27r7 .ret)))
abbrev f27 : Pfn := ⟨2, 19, [.tmp 4], f27b⟩
def f27K : Array (List Nat) := #[[0, 1], [0, 1, 7, 8], [0, 1, 7, 8, 9], [0, 1, 5, 7, 8], [0, 1, 5, 7, 8, 16], [4], [0, 1, 7, 8], [4]]
def f27H : Array (List Nat) := #[[], [], [], [], [], [], [], []]
def f27A : Ann := ⟨fun r => f27K.getD r [], fun r => f27H.getD r [], fun r i => ([] : List (Nat × Nat)).contains (r, i)⟩
theorem f27C : compF Go.Proofs.Try.prog f27A 27 = some f27 := by kernel_rfl

/-- slices.IndexFunc[[]int,int] -/
abbrev f28o0 : List (Nat × Pop) := [
  (0, ⟨(some 4), .mv (.c (.t (.i .i64 0))), none⟩)]
abbrev f28r0 : Pc := .reg f28o0 [0, 1] []
abbrev f28o1 : List (Nat × Pop) := [
  (0, ⟨(some 6), .mv (.tmp 0), none⟩),
  (1, ⟨(some 7), .lenL (.tmp 6), none⟩),
  (2, ⟨(some 8), .mv (.c (.t (.i .i64 0))), none⟩)]
abbrev f28r1 : Pc := .reg f28o1 [0, 1, 7, 8] []
abbrev f28o2 : List (Nat × Pop) := [
  (0, ⟨(some 9), .bin .lss (.tmp 8) (.tmp 7), none⟩)]
abbrev f28r2 : Pc := .reg f28o2 [0, 1, 7, 8, 9] []
abbrev f28o3 : List (Nat × Pop) := [
  (0, ⟨(some 10), .mv (.tmp 8), none⟩),
  (1, ⟨(some 5), .mv (.tmp 10), none⟩)]
abbrev f28r3 : Pc := .reg f28o3 [0, 1, 5, 7, 8] []
abbrev f28o4 : List (Nat × Pop) := [
  (0, ⟨(some 11), .mv (.tmp 1), none⟩),
  (1, ⟨(some 12), .mv (.tmp 0), none⟩),
  (2, ⟨(some 13), .mv (.tmp 5), none⟩),
  (3, ⟨(some 14), .ixS 1 (.tmp 12) (.tmp 13), none⟩),
  (4, ⟨(some 15), .load false 1 (.tmp 14), none⟩),
  (5, ⟨(some 16), .callv (.tmp 11) [(.tmp 15)], none⟩)]
abbrev f28r4 : Pc := .reg f28o4 [0, 1, 5, 7, 8, 16] []
abbrev f28o5 : List (Nat × Pop) := [
  (0, ⟨(some 17), .mv (.tmp 5), none⟩),
  (1, ⟨(some 4), .mv (.tmp 17), none⟩)]
abbrev f28r5 : Pc := .reg f28o5 [4] []
abbrev f28o6 : List (Nat × Pop) := [
  (0, ⟨(some 18), .bin .add (.tmp 8) (.c (.t (.i .i64 1))), none⟩),
  (1, ⟨(some 8), .mv (.tmp 18), none⟩)]
abbrev f28r6 : Pc := .reg f28o6 [0, 1, 7, 8] []
def f28l0 : Pc := (.seq f28r2 (.seq (.cond (.tmp 9) .skip (.exit 0)) (.seq (.block 1 (.seq f28r3 (.seq f28r4 (.cond (.tmp 16) (.seq f28r5 .ret) .skip)))) f28r6)))
theorem f28l0e (C : Cfg) (s : St) : evL C f28l0 s = evL C (.seq f28r2 (.seq (.cond (.tmp 9) .skip (.exit 0)) (.seq (.block 1 (.seq f28r3 (.seq f28r4 (.cond (.tmp 16) (.seq f28r5 .ret) .skip)))) f28r6))) s := rfl
abbrev f28o7 : List (Nat × Pop) := [
  (0, ⟨(some 4), .mv (.c (.t (.i .i64 (-1)))), none⟩)]
abbrev f28r7 : Pc := .reg f28o7 [4] []
abbrev f28b : Pc := (.seq f28r0 (.seq (.seq f28r1 (.block 0 (.loop f28l0))) (.seq f28r7 .ret)))
abbrev f28 : Pfn := ⟨2, 19, [.tmp 4], f28b⟩
def f28K : Array (List Nat) := #[[0, 1], [0, 1, 7, 8], [0, 1, 7, 8, 9], [0, 1, 5, 7, 8], [0, 1, 5, 7, 8, 16], [4], [0, 1, 7, 8], [4]]
def f28H : Array (List Nat) := #[[], [], [], [], [], [], [], []]
def f28A : Ann := ⟨fun r => f28K.getD r [], fun r => f28H.getD r [], fun r i => ([] : List (Nat × Nat)).contains (r, i)⟩
theorem f28C : compF Go.Proofs.Try.prog f28A 28 = some f28 := by kernel_rfl


end Go.Proofs.Ytldbikinnoiacaa.Pv
