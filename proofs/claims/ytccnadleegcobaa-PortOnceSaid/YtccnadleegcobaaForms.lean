/- The functions' forms, as the pure evaluator takes them; each is what the program's code gives (kernel_rfl). -/
import Derived.Test.YtccnadleegcobaaPevA
import Derived.Test.YtccnadleegcobaaPevC
import Derived.Test.YtccnadleegcobaaProg
import Derived.KernelRfl
namespace Go.Proofs.Ytccnadleegcobaa.Pv
open Go Go.Pev
/-- switchboard/switchboardlaw23.PortOnce -/
abbrev f3o0 : List (Nat × Pop) := [
  (0, ⟨(some 2), .mv (.c (.t (.b false))), none⟩)]
abbrev f3r0 : Pc := .reg f3o0 [0] []
abbrev f3o1 : List (Nat × Pop) := [
  (0, ⟨(some 3), .alloc 34 [(.t (.i .i64 0)), .nl, (.t (.i .i64 0)), .nl, (.t (.i .i64 0)), .nl, (.t (.i .i64 0)), .nl, .nl, .nl, (.t (.i .i64 0)), (.t (.i .i64 0)), (.t (.i .i64 0)), (.t (.i .i64 0)), (.t (.i .i64 0)), (.t (.i .i64 0)), (.t (.i .i64 0)), (.t (.i .i64 0)), (.t (.i .i64 0)), (.t (.i .i64 0)), (.t (.i .i64 0)), (.t (.i .i64 0)), (.t (.i .i64 0)), (.t (.i .i64 0)), (.t (.i .i64 0)), (.t (.i .i64 0)), (.t (.i .i64 0)), (.t (.i .i64 0)), (.t (.i .i64 0)), (.t (.i .i64 0)), (.t (.i .i64 0)), (.t (.i .i64 0)), (.t (.i .i64 0)), (.t (.i .i64 0)), (.t (.i .i64 0)), (.t (.i .i64 0)), (.t (.i .i64 0)), (.t (.i .i64 0)), (.t (.i .i64 0)), (.t (.i .i64 0)), (.t (.i .i64 0)), (.t (.i .i64 0)), (.t (.i .i64 0)), (.t (.i .i64 0)), (.t (.i .i64 0)), (.t (.i .i64 0)), (.t (.i .i64 0)), (.t (.i .i64 0)), (.t (.i .i64 0)), (.t (.i .i64 0)), (.t (.i .i64 0)), (.t (.i .i64 0)), (.t (.i .i64 0)), (.t (.i .i64 0)), (.t (.i .i64 0)), (.t (.i .i64 0)), (.t (.i .i64 0)), (.t (.i .i64 0)), (.t (.i .i64 0)), (.t (.i .i64 0)), (.t (.i .i64 0)), (.t (.i .i64 0)), (.t (.i .i64 0)), (.t (.i .i64 0)), (.t (.i .i64 0)), (.t (.i .i64 0)), (.t (.i .i64 0)), (.t (.i .i64 0)), (.t (.i .i64 0)), (.t (.i .i64 0)), (.t (.i .i64 0)), (.t (.i .i64 0)), (.t (.i .i64 0)), (.t (.i .i64 0)), (.t (.i .i64 0)), (.t (.i .i64 0)), (.t (.i .i64 0)), (.t (.i .i64 0)), (.t (.i .i64 0)), (.t (.i .i64 0)), (.t (.i .i64 0)), (.t (.i .i64 0)), (.t (.i .i64 0)), (.t (.i .i64 0)), (.t (.i .i64 0)), (.t (.i .i64 0)), (.t (.i .i64 0)), (.t (.i .i64 0)), (.t (.i .i64 0)), (.t (.i .i64 0)), (.t (.i .i64 0)), (.t (.i .i64 0)), (.t (.i .i64 0)), (.t (.i .i64 0)), (.t (.i .i64 0)), (.t (.i .i64 0)), (.t (.i .i64 0)), (.t (.i .i64 0)), (.t (.i .i64 0)), (.t (.i .i64 0)), (.t (.i .i64 0)), (.t (.i .i64 0)), (.t (.i .i64 0)), (.t (.i .i64 0)), (.t (.i .i64 0)), (.t (.i .i64 0)), (.t (.i .i64 0)), (.t (.i .i64 0)), (.t (.i .i64 0)), (.t (.i .i64 0)), (.t (.i .i64 0)), (.t (.i .i64 0)), (.t (.i .i64 0)), (.t (.i .i64 0)), (.t (.i .i64 0)), (.t (.i .i64 0)), (.t (.i .i64 0)), (.t (.i .i64 0)), (.t (.i .i64 0)), (.t (.i .i64 0)), (.t (.i .i64 0)), (.t (.i .i64 0)), (.t (.i .i64 0)), (.t (.i .i64 0)), (.t (.i .i64 0)), (.t (.i .i64 0)), (.t (.i .i64 0)), (.t (.i .i64 0)), (.t (.i .i64 0)), (.t (.i .i64 0)), (.t (.i .i64 0)), (.t (.i .i64 0)), (.t (.i .i64 0)), (.t (.i .i64 0)), (.t (.i .i64 0)), (.t (.i .i64 0)), (.t (.i .i64 0)), (.t (.i .i64 0)), (.t (.i .i64 0)), (.t (.i .i64 0)), (.t (.i .i64 0)), (.t (.i .i64 0)), (.t (.i .i64 0)), (.t (.i .i64 0)), (.t (.i .i64 0)), (.t (.i .i64 0)), (.t (.i .i64 0)), (.t (.i .i64 0)), (.t (.i .i64 0)), (.t (.i .i64 0)), (.t (.i .i64 0)), (.t (.i .i64 0)), (.t (.i .i64 0)), (.t (.i .i64 0)), (.t (.i .i64 0)), (.t (.i .i64 0)), (.t (.i .i64 0)), (.t (.i .i64 0)), (.t (.i .i64 0)), (.t (.i .i64 0)), (.t (.i .i64 0)), (.t (.i .i64 0)), (.t (.i .i64 0)), (.t (.i .i64 0)), (.t (.i .i64 0)), (.t (.i .i64 0)), (.t (.i .i64 0)), (.t (.i .i64 0)), (.t (.i .i64 0)), (.t (.i .i64 0)), (.t (.i .i64 0)), (.t (.i .i64 0)), (.t (.i .i64 0)), (.t (.i .i64 0)), (.t (.i .i64 0)), (.t (.i .i64 0)), (.t (.i .i64 0)), (.t (.i .i64 0)), (.t (.i .i64 0)), (.t (.i .i64 0)), (.t (.i .i64 0)), (.t (.i .i64 0)), (.t (.i .i64 0)), (.t (.i .i64 0)), (.t (.i .i64 0)), (.t (.i .i64 0)), (.t (.i .i64 0)), (.t (.i .i64 0)), (.t (.i .i64 0)), (.t (.i .i64 0)), (.t (.i .i64 0)), (.t (.i .i64 0)), (.t (.i .i64 0)), (.t (.i .i64 0)), (.t (.i .i64 0)), (.t (.i .i64 0)), (.t (.i .i64 0)), (.t (.i .i64 0)), (.t (.i .i64 0)), (.t (.i .i64 0)), (.t (.i .i64 0)), (.t (.i .i64 0)), (.t (.i .i64 0)), (.t (.i .i64 0)), (.t (.i .i64 0)), (.t (.i .i64 0)), (.t (.i .i64 0)), (.t (.i .i64 0)), (.t (.i .i64 0)), (.t (.i .i64 0)), (.t (.i .i64 0)), (.t (.i .i64 0)), (.t (.i .i64 0)), (.t (.i .i64 0)), (.t (.i .i64 0)), (.t (.i .i64 0)), (.t (.i .i64 0)), (.t (.i .i64 0)), (.t (.i .i64 0)), (.t (.i .i64 0)), (.t (.i .i64 0)), (.t (.i .i64 0)), (.t (.i .i64 0)), (.t (.i .i64 0)), (.t (.i .i64 0)), (.t (.i .i64 0)), (.t (.i .i64 0)), (.t (.i .i64 0)), (.t (.i .i64 0)), (.t (.i .i64 0)), (.t (.i .i64 0)), (.t (.i .i64 0)), (.t (.i .i64 0)), (.t (.i .i64 0)), (.t (.i .i64 0)), (.t (.i .i64 0)), (.t (.i .i64 0)), (.t (.i .i64 0)), (.t (.i .i64 0)), (.t (.i .i64 0)), (.t (.i .i64 0)), (.t (.i .i64 0)), (.t (.i .i64 0)), (.t (.i .i64 0)), (.t (.i .i64 0)), (.t (.i .i64 0)), (.t (.i .i64 0)), (.t (.i .i64 0)), (.t (.i .i64 0)), (.t (.i .i64 0)), (.t (.i .i64 0)), (.t (.i .i64 0)), (.t (.i .i64 0)), (.t (.i .i64 0)), (.t (.i .i64 0)), (.t (.i .i64 0)), (.t (.i .i64 0)), (.t (.i .i64 0)), (.t (.i .i64 0)), (.t (.i .i64 0)), (.t (.i .i64 0)), (.t (.i .i64 0)), (.t (.i .i64 0)), (.t (.i .i64 0)), (.t (.i .i64 0)), (.t (.i .i64 0)), (.t (.i .i64 0))], none⟩)]
abbrev f3r1 : Pc := .reg f3o1 [0, 3] []
abbrev f3o2 : List (Nat × Pop) := [
  (0, ⟨(some 4), .mv (.c (.t (.i .i64 0))), none⟩)]
abbrev f3r2 : Pc := .reg f3o2 [0, 3, 4] []
abbrev f3o3 : List (Nat × Pop) := [
  (0, ⟨(some 10), .mv (.tmp 4), none⟩),
  (1, ⟨(some 11), .mv (.tmp 0), none⟩),
  (2, ⟨(some 12), .lenL (.tmp 11), none⟩),
  (3, ⟨(some 13), .bin .lss (.tmp 10) (.tmp 12), none⟩),
  (4, ⟨(some 14), .mv (.tmp 13), none⟩),
  (5, ⟨(some 15), .mv (.tmp 4), (some (14, true))⟩),
  (6, ⟨(some 16), .bin .lss (.tmp 15) (.c (.t (.i .i64 300))), (some (14, true))⟩),
  (7, ⟨(some 17), .pick (.tmp 14) (.tmp 16) (.c (.t (.b false))), none⟩)]
abbrev f3r3 : Pc := .reg f3o3 [0, 3, 4, 17] []
abbrev f3o5 : List (Nat × Pop) := [
  (0, ⟨(some 20), .load true 267 (.tmp 3), none⟩),
  (1, ⟨(some 21), .mv (.tmp 0), none⟩),
  (2, ⟨(some 22), .mv (.tmp 4), none⟩),
  (3, ⟨(some 23), .ixS 2 (.tmp 21) (.tmp 22), none⟩),
  (4, ⟨(some 24), .ixA 2 1 (.tmp 23) (.c (.t (.i .i64 0))), none⟩),
  (5, ⟨(some 25), .load false 1 (.tmp 24), none⟩),
  (6, ⟨(some 26), .bin .rem (.tmp 25) (.c (.t (.i .u8 7))), none⟩),
  (7, ⟨(some 27), .cvi .i64 (.tmp 26), none⟩),
  (8, ⟨(some 28), .mv (.tmp 0), none⟩),
  (9, ⟨(some 29), .mv (.tmp 4), none⟩),
  (10, ⟨(some 30), .ixS 2 (.tmp 28) (.tmp 29), none⟩),
  (11, ⟨(some 31), .ixA 2 1 (.tmp 30) (.c (.t (.i .i64 1))), none⟩),
  (12, ⟨(some 32), .load false 1 (.tmp 31), none⟩),
  (13, ⟨(some 33), .cvi .i64 (.tmp 32), none⟩),
  (14, ⟨(some 34), .callq 4 [(.tmp 20), (.tmp 27), (.tmp 33)], none⟩),
  (15, ⟨none, .store 267 (.tmp 3) (.tmp 34), none⟩)]
abbrev f3r5 : Pc := .reg f3o5 [0, 3, 4] []
abbrev f3o6 : List (Nat × Pop) := [
  (0, ⟨(some 35), .mv (.c (.t (.i .i64 0))), none⟩)]
abbrev f3r6 : Pc := .reg f3o6 [0, 3, 4, 35] []
abbrev f3o7 : List (Nat × Pop) := [
  (0, ⟨(some 36), .bin .lss (.tmp 35) (.c (.t (.i .i64 256))), none⟩)]
abbrev f3r7 : Pc := .reg f3o7 [0, 3, 4, 35, 36] []
abbrev f3o8 : List (Nat × Pop) := [
  (0, ⟨(some 37), .mv (.tmp 35), none⟩),
  (1, ⟨(some 5), .mv (.tmp 37), none⟩)]
abbrev f3r8 : Pc := .reg f3o8 [0, 3, 4, 5, 35] []
abbrev f3o9 : List (Nat × Pop) := [
  (0, ⟨(some 38), .mv (.tmp 5), none⟩),
  (1, ⟨(some 39), .fad 10 (.tmp 3), none⟩),
  (2, ⟨(some 40), .ixA 256 1 (.tmp 39) (.tmp 38), none⟩),
  (3, ⟨(some 41), .load false 1 (.tmp 40), none⟩),
  (4, ⟨(some 42), .bin .gtr (.tmp 41) (.c (.t (.i .i64 1))), none⟩),
  (5, ⟨(some 43), .mv (.tmp 42), none⟩),
  (6, ⟨(some 44), .mv (.tmp 5), (some (43, false))⟩),
  (7, ⟨(some 45), .fad 10 (.tmp 3), (some (43, false))⟩),
  (8, ⟨(some 46), .ixA 256 1 (.tmp 45) (.tmp 44), (some (43, false))⟩),
  (9, ⟨(some 47), .load false 1 (.tmp 46), (some (43, false))⟩),
  (10, ⟨(some 48), .bin .gtr (.tmp 47) (.c (.t (.i .i64 0))), (some (43, false))⟩),
  (11, ⟨(some 49), .mv (.tmp 48), (some (43, false))⟩),
  (12, ⟨(some 50), .mv (.tmp 5), (some (49, true))⟩),
  (13, ⟨(some 51), .fad 266 (.tmp 3), (some (49, true))⟩),
  (14, ⟨(some 52), .load false 1 (.tmp 51), (some (49, true))⟩),
  (15, ⟨(some 53), .bin .geq (.tmp 50) (.tmp 52), (some (49, true))⟩),
  (16, ⟨(some 54), .pick (.tmp 49) (.tmp 53) (.c (.t (.b false))), (some (43, false))⟩),
  (17, ⟨(some 55), .pick (.tmp 43) (.c (.t (.b true))) (.tmp 54), none⟩)]
abbrev f3r9 : Pc := .reg f3o9 [0, 3, 4, 35, 55] []
abbrev f3o10 : List (Nat × Pop) := [
  (0, ⟨(some 2), .mv (.c (.t (.b false))), none⟩)]
abbrev f3r10 : Pc := .reg f3o10 [2] [3]
abbrev f3o11 : List (Nat × Pop) := [
  (0, ⟨(some 56), .bin .add (.tmp 35) (.c (.t (.i .i64 1))), none⟩),
  (1, ⟨(some 35), .mv (.tmp 56), none⟩)]
abbrev f3r11 : Pc := .reg f3o11 [0, 3, 4, 35] []
def f3l0 : Pc := (.seq f3r7 (.seq (.cond (.tmp 36) .skip (.exit 2)) (.seq (.block 3 (.seq f3r8 (.seq f3r9 (.cond (.tmp 55) (.seq f3r10 .ret) .skip)))) f3r11)))
theorem f3l0e (C : Cfg) (s : St) : evL C f3l0 s = evL C (.seq f3r7 (.seq (.cond (.tmp 36) .skip (.exit 2)) (.seq (.block 3 (.seq f3r8 (.seq f3r9 (.cond (.tmp 55) (.seq f3r10 .ret) .skip)))) f3r11))) s := rfl
abbrev f3o4 : List (Nat × Pop) := [
  (0, ⟨(some 18), .mv (.tmp 4), none⟩),
  (1, ⟨(some 19), .bin .add (.tmp 18) (.c (.t (.i .i64 1))), none⟩),
  (2, ⟨(some 4), .mv (.tmp 19), none⟩)]
abbrev f3r4 : Pc := .reg f3o4 [0, 3, 4] []
def f3l1 : Pc := (.seq (.seq f3r3 (.cond (.tmp 17) .skip (.exit 0))) (.seq (.block 1 (.seq f3r5 (.seq f3r6 (.block 2 (.loop f3l0))))) f3r4))
theorem f3l1e (C : Cfg) (s : St) : evL C f3l1 s = evL C (.seq (.seq f3r3 (.cond (.tmp 17) .skip (.exit 0))) (.seq (.block 1 (.seq f3r5 (.seq f3r6 (.block 2 (.loop f3l0))))) f3r4)) s := rfl
abbrev f3o12 : List (Nat × Pop) := [
  (0, ⟨(some 6), .mv (.c (.t (.i .i64 0))), none⟩)]
abbrev f3r12 : Pc := .reg f3o12 [3, 6] []
abbrev f3o13 : List (Nat × Pop) := [
  (0, ⟨(some 57), .mv (.tmp 6), none⟩),
  (1, ⟨(some 58), .bin .lss (.tmp 57) (.c (.t (.i .i64 800))), none⟩),
  (2, ⟨(some 59), .mv (.tmp 58), none⟩),
  (3, ⟨(some 60), .fad 9 (.tmp 3), (some (59, true))⟩),
  (4, ⟨(some 61), .load false 1 (.tmp 60), (some (59, true))⟩),
  (5, ⟨(some 62), .lenL (.tmp 61), (some (59, true))⟩),
  (6, ⟨(some 63), .bin .gtr (.tmp 62) (.c (.t (.i .i64 0))), (some (59, true))⟩),
  (7, ⟨(some 64), .pick (.tmp 59) (.tmp 63) (.c (.t (.b false))), none⟩)]
abbrev f3r13 : Pc := .reg f3o13 [3, 6, 64] []
abbrev f3o15 : List (Nat × Pop) := [
  (0, ⟨(some 67), .load true 267 (.tmp 3), none⟩),
  (1, ⟨(some 68), .call 5 [(.tmp 67), (.c (.t (.i .i64 0)))], none⟩),
  (2, ⟨none, .store 267 (.tmp 3) (.tmp 68), none⟩)]
abbrev f3r15 : Pc := .reg f3o15 [3, 6] []
abbrev f3o14 : List (Nat × Pop) := [
  (0, ⟨(some 65), .mv (.tmp 6), none⟩),
  (1, ⟨(some 66), .bin .add (.tmp 65) (.c (.t (.i .i64 1))), none⟩),
  (2, ⟨(some 6), .mv (.tmp 66), none⟩)]
abbrev f3r14 : Pc := .reg f3o14 [3, 6] []
def f3l2 : Pc := (.seq (.seq f3r13 (.cond (.tmp 64) .skip (.exit 4))) (.seq (.block 5 f3r15) f3r14))
theorem f3l2e (C : Cfg) (s : St) : evL C f3l2 s = evL C (.seq (.seq f3r13 (.cond (.tmp 64) .skip (.exit 4))) (.seq (.block 5 f3r15) f3r14)) s := rfl
abbrev f3o16 : List (Nat × Pop) := [
  (0, ⟨(some 69), .fad 0 (.tmp 3), none⟩),
  (1, ⟨(some 70), .load true 4 (.tmp 69), none⟩),
  (2, ⟨(some 71), .call 6 [(.tmp 70)], none⟩),
  (3, ⟨(some 72), .fad 8 (.tmp 3), none⟩),
  (4, ⟨none, .store 1 (.tmp 72) (.tmp 71), none⟩)]
abbrev f3r16 : Pc := .reg f3o16 [3] []
abbrev f3o17 : List (Nat × Pop) := [
  (0, ⟨(some 7), .mv (.c (.t (.i .i64 0))), none⟩)]
abbrev f3r17 : Pc := .reg f3o17 [3, 7] []
abbrev f3o18 : List (Nat × Pop) := [
  (0, ⟨(some 73), .mv (.tmp 7), none⟩),
  (1, ⟨(some 74), .bin .lss (.tmp 73) (.c (.t (.i .i64 400))), none⟩),
  (2, ⟨(some 75), .mv (.tmp 74), none⟩),
  (3, ⟨(some 76), .fad 8 (.tmp 3), (some (75, true))⟩),
  (4, ⟨(some 77), .load false 1 (.tmp 76), (some (75, true))⟩),
  (5, ⟨(some 78), .lenL (.tmp 77), (some (75, true))⟩),
  (6, ⟨(some 79), .bin .gtr (.tmp 78) (.c (.t (.i .i64 0))), (some (75, true))⟩),
  (7, ⟨(some 80), .pick (.tmp 75) (.tmp 79) (.c (.t (.b false))), none⟩)]
abbrev f3r18 : Pc := .reg f3o18 [3, 7, 80] []
abbrev f3o20 : List (Nat × Pop) := [
  (0, ⟨(some 83), .load true 267 (.tmp 3), none⟩),
  (1, ⟨(some 84), .call 7 [(.tmp 83), (.c (.t (.i .i64 0))), (.c (.t (.b false)))], none⟩),
  (2, ⟨none, .store 267 (.tmp 3) (.tmp 84), none⟩)]
abbrev f3r20 : Pc := .reg f3o20 [3, 7] []
abbrev f3o19 : List (Nat × Pop) := [
  (0, ⟨(some 81), .mv (.tmp 7), none⟩),
  (1, ⟨(some 82), .bin .add (.tmp 81) (.c (.t (.i .i64 1))), none⟩),
  (2, ⟨(some 7), .mv (.tmp 82), none⟩)]
abbrev f3r19 : Pc := .reg f3o19 [3, 7] []
def f3l3 : Pc := (.seq (.seq f3r18 (.cond (.tmp 80) .skip (.exit 6))) (.seq (.block 7 f3r20) f3r19))
theorem f3l3e (C : Cfg) (s : St) : evL C f3l3 s = evL C (.seq (.seq f3r18 (.cond (.tmp 80) .skip (.exit 6))) (.seq (.block 7 f3r20) f3r19)) s := rfl
abbrev f3o21 : List (Nat × Pop) := [
  (0, ⟨(some 8), .mv (.c (.t (.i .i64 0))), none⟩)]
abbrev f3r21 : Pc := .reg f3o21 [3, 8] []
abbrev f3o22 : List (Nat × Pop) := [
  (0, ⟨(some 85), .mv (.tmp 8), none⟩),
  (1, ⟨(some 86), .bin .lss (.tmp 85) (.c (.t (.i .i64 800))), none⟩),
  (2, ⟨(some 87), .mv (.tmp 86), none⟩),
  (3, ⟨(some 88), .fad 9 (.tmp 3), (some (87, true))⟩),
  (4, ⟨(some 89), .load false 1 (.tmp 88), (some (87, true))⟩),
  (5, ⟨(some 90), .lenL (.tmp 89), (some (87, true))⟩),
  (6, ⟨(some 91), .bin .gtr (.tmp 90) (.c (.t (.i .i64 0))), (some (87, true))⟩),
  (7, ⟨(some 92), .pick (.tmp 87) (.tmp 91) (.c (.t (.b false))), none⟩)]
abbrev f3r22 : Pc := .reg f3o22 [3, 8, 92] []
abbrev f3o24 : List (Nat × Pop) := [
  (0, ⟨(some 95), .load true 267 (.tmp 3), none⟩),
  (1, ⟨(some 96), .call 5 [(.tmp 95), (.c (.t (.i .i64 0)))], none⟩),
  (2, ⟨none, .store 267 (.tmp 3) (.tmp 96), none⟩)]
abbrev f3r24 : Pc := .reg f3o24 [3, 8] []
abbrev f3o23 : List (Nat × Pop) := [
  (0, ⟨(some 93), .mv (.tmp 8), none⟩),
  (1, ⟨(some 94), .bin .add (.tmp 93) (.c (.t (.i .i64 1))), none⟩),
  (2, ⟨(some 8), .mv (.tmp 94), none⟩)]
abbrev f3r23 : Pc := .reg f3o23 [3, 8] []
def f3l4 : Pc := (.seq (.seq f3r22 (.cond (.tmp 92) .skip (.exit 8))) (.seq (.block 9 f3r24) f3r23))
theorem f3l4e (C : Cfg) (s : St) : evL C f3l4 s = evL C (.seq (.seq f3r22 (.cond (.tmp 92) .skip (.exit 8))) (.seq (.block 9 f3r24) f3r23)) s := rfl
abbrev f3o25 : List (Nat × Pop) := [
  (0, ⟨(some 97), .fad 266 (.tmp 3), none⟩),
  (1, ⟨(some 98), .load false 1 (.tmp 97), none⟩),
  (2, ⟨(some 99), .mv (.c (.t (.i .i64 0))), none⟩)]
abbrev f3r25 : Pc := .reg f3o25 [3, 98, 99] []
abbrev f3o26 : List (Nat × Pop) := [
  (0, ⟨(some 100), .bin .lss (.tmp 99) (.tmp 98), none⟩)]
abbrev f3r26 : Pc := .reg f3o26 [3, 98, 99, 100] []
abbrev f3o27 : List (Nat × Pop) := [
  (0, ⟨(some 101), .mv (.tmp 99), none⟩),
  (1, ⟨(some 9), .mv (.tmp 101), none⟩)]
abbrev f3r27 : Pc := .reg f3o27 [3, 9, 98, 99] []
abbrev f3o28 : List (Nat × Pop) := [
  (0, ⟨(some 102), .mv (.tmp 9), none⟩),
  (1, ⟨(some 103), .fad 10 (.tmp 3), none⟩),
  (2, ⟨(some 104), .ixA 256 1 (.tmp 103) (.tmp 102), none⟩),
  (3, ⟨(some 105), .load false 1 (.tmp 104), none⟩),
  (4, ⟨(some 106), .bin .neq (.tmp 105) (.c (.t (.i .i64 1))), none⟩)]
abbrev f3r28 : Pc := .reg f3o28 [3, 98, 99, 106] []
abbrev f3o29 : List (Nat × Pop) := [
  (0, ⟨(some 2), .mv (.c (.t (.b false))), none⟩)]
abbrev f3r29 : Pc := .reg f3o29 [2] [3]
abbrev f3o30 : List (Nat × Pop) := [
  (0, ⟨(some 107), .bin .add (.tmp 99) (.c (.t (.i .i64 1))), none⟩),
  (1, ⟨(some 99), .mv (.tmp 107), none⟩)]
abbrev f3r30 : Pc := .reg f3o30 [3, 98, 99] []
def f3l5 : Pc := (.seq f3r26 (.seq (.cond (.tmp 100) .skip (.exit 10)) (.seq (.block 11 (.seq f3r27 (.seq f3r28 (.cond (.tmp 106) (.seq f3r29 .ret) .skip)))) f3r30)))
theorem f3l5e (C : Cfg) (s : St) : evL C f3l5 s = evL C (.seq f3r26 (.seq (.cond (.tmp 100) .skip (.exit 10)) (.seq (.block 11 (.seq f3r27 (.seq f3r28 (.cond (.tmp 106) (.seq f3r29 .ret) .skip)))) f3r30))) s := rfl
abbrev f3o31 : List (Nat × Pop) := [
  (0, ⟨(some 108), .fad 0 (.tmp 3), none⟩),
  (1, ⟨(some 109), .fad 0 (.tmp 108), none⟩),
  (2, ⟨(some 110), .fad 1 (.tmp 109), none⟩),
  (3, ⟨(some 111), .load false 1 (.tmp 110), none⟩),
  (4, ⟨(some 112), .lenL (.tmp 111), none⟩),
  (5, ⟨(some 113), .bin .eql (.tmp 112) (.c (.t (.i .i64 0))), none⟩),
  (6, ⟨(some 114), .mv (.tmp 113), none⟩),
  (7, ⟨(some 115), .fad 8 (.tmp 3), (some (114, true))⟩),
  (8, ⟨(some 116), .load false 1 (.tmp 115), (some (114, true))⟩),
  (9, ⟨(some 117), .lenL (.tmp 116), (some (114, true))⟩),
  (10, ⟨(some 118), .bin .eql (.tmp 117) (.c (.t (.i .i64 0))), (some (114, true))⟩),
  (11, ⟨(some 119), .pick (.tmp 114) (.tmp 118) (.c (.t (.b false))), none⟩),
  (12, ⟨(some 120), .mv (.tmp 119), none⟩),
  (13, ⟨(some 121), .call 8 [], (some (120, true))⟩),
  (14, ⟨(some 122), .pick (.tmp 120) (.tmp 121) (.c (.t (.b false))), none⟩),
  (15, ⟨(some 2), .mv (.tmp 122), none⟩)]
abbrev f3r31 : Pc := .reg f3o31 [2] [3]
abbrev f3b : Pc := (.seq f3r0 (.seq f3r1 (.seq (.seq f3r2 (.block 0 (.loop f3l1))) (.seq (.seq f3r12 (.block 4 (.loop f3l2))) (.seq f3r16 (.seq (.seq f3r17 (.block 6 (.loop f3l3))) (.seq (.seq f3r21 (.block 8 (.loop f3l4))) (.seq (.seq f3r25 (.block 10 (.loop f3l5))) (.seq f3r31 .ret)))))))))
abbrev f3 : Pfn := ⟨1, 123, [.tmp 2], f3b⟩
def f3K : Array (List Nat) := #[[0], [0, 3], [0, 3, 4], [0, 3, 4, 17], [0, 3, 4], [0, 3, 4], [0, 3, 4, 35], [0, 3, 4, 35, 36], [0, 3, 4, 5, 35], [0, 3, 4, 35, 55], [2], [0, 3, 4, 35], [3, 6], [3, 6, 64], [3, 6], [3, 6], [3], [3, 7], [3, 7, 80], [3, 7], [3, 7], [3, 8], [3, 8, 92], [3, 8], [3, 8], [3, 98, 99], [3, 98, 99, 100], [3, 9, 98, 99], [3, 98, 99, 106], [2], [3, 98, 99], [2]]
def f3H : Array (List Nat) := #[[], [], [], [], [], [], [], [], [], [], [3], [], [], [], [], [], [], [], [], [], [], [], [], [], [], [], [], [], [], [3], [], [3]]
def f3A : Ann := ⟨fun r => f3K.getD r [], fun r => f3H.getD r [], fun r i => ([] : List (Nat × Nat)).contains (r, i)⟩
theorem f3C : compF Try.prog f3A 3 = some f3 := by kernel_rfl

/-- switchboard/switchboardlaw23.act -/
abbrev f4o0 : List (Nat × Pop) := [
  (0, ⟨(some 3), .box 34 267 (.tmp 0), none⟩),
  (1, ⟨(some 6), .alloc 34 [(.t (.i .i64 0)), .nl, (.t (.i .i64 0)), .nl, (.t (.i .i64 0)), .nl, (.t (.i .i64 0)), .nl, .nl, .nl, (.t (.i .i64 0)), (.t (.i .i64 0)), (.t (.i .i64 0)), (.t (.i .i64 0)), (.t (.i .i64 0)), (.t (.i .i64 0)), (.t (.i .i64 0)), (.t (.i .i64 0)), (.t (.i .i64 0)), (.t (.i .i64 0)), (.t (.i .i64 0)), (.t (.i .i64 0)), (.t (.i .i64 0)), (.t (.i .i64 0)), (.t (.i .i64 0)), (.t (.i .i64 0)), (.t (.i .i64 0)), (.t (.i .i64 0)), (.t (.i .i64 0)), (.t (.i .i64 0)), (.t (.i .i64 0)), (.t (.i .i64 0)), (.t (.i .i64 0)), (.t (.i .i64 0)), (.t (.i .i64 0)), (.t (.i .i64 0)), (.t (.i .i64 0)), (.t (.i .i64 0)), (.t (.i .i64 0)), (.t (.i .i64 0)), (.t (.i .i64 0)), (.t (.i .i64 0)), (.t (.i .i64 0)), (.t (.i .i64 0)), (.t (.i .i64 0)), (.t (.i .i64 0)), (.t (.i .i64 0)), (.t (.i .i64 0)), (.t (.i .i64 0)), (.t (.i .i64 0)), (.t (.i .i64 0)), (.t (.i .i64 0)), (.t (.i .i64 0)), (.t (.i .i64 0)), (.t (.i .i64 0)), (.t (.i .i64 0)), (.t (.i .i64 0)), (.t (.i .i64 0)), (.t (.i .i64 0)), (.t (.i .i64 0)), (.t (.i .i64 0)), (.t (.i .i64 0)), (.t (.i .i64 0)), (.t (.i .i64 0)), (.t (.i .i64 0)), (.t (.i .i64 0)), (.t (.i .i64 0)), (.t (.i .i64 0)), (.t (.i .i64 0)), (.t (.i .i64 0)), (.t (.i .i64 0)), (.t (.i .i64 0)), (.t (.i .i64 0)), (.t (.i .i64 0)), (.t (.i .i64 0)), (.t (.i .i64 0)), (.t (.i .i64 0)), (.t (.i .i64 0)), (.t (.i .i64 0)), (.t (.i .i64 0)), (.t (.i .i64 0)), (.t (.i .i64 0)), (.t (.i .i64 0)), (.t (.i .i64 0)), (.t (.i .i64 0)), (.t (.i .i64 0)), (.t (.i .i64 0)), (.t (.i .i64 0)), (.t (.i .i64 0)), (.t (.i .i64 0)), (.t (.i .i64 0)), (.t (.i .i64 0)), (.t (.i .i64 0)), (.t (.i .i64 0)), (.t (.i .i64 0)), (.t (.i .i64 0)), (.t (.i .i64 0)), (.t (.i .i64 0)), (.t (.i .i64 0)), (.t (.i .i64 0)), (.t (.i .i64 0)), (.t (.i .i64 0)), (.t (.i .i64 0)), (.t (.i .i64 0)), (.t (.i .i64 0)), (.t (.i .i64 0)), (.t (.i .i64 0)), (.t (.i .i64 0)), (.t (.i .i64 0)), (.t (.i .i64 0)), (.t (.i .i64 0)), (.t (.i .i64 0)), (.t (.i .i64 0)), (.t (.i .i64 0)), (.t (.i .i64 0)), (.t (.i .i64 0)), (.t (.i .i64 0)), (.t (.i .i64 0)), (.t (.i .i64 0)), (.t (.i .i64 0)), (.t (.i .i64 0)), (.t (.i .i64 0)), (.t (.i .i64 0)), (.t (.i .i64 0)), (.t (.i .i64 0)), (.t (.i .i64 0)), (.t (.i .i64 0)), (.t (.i .i64 0)), (.t (.i .i64 0)), (.t (.i .i64 0)), (.t (.i .i64 0)), (.t (.i .i64 0)), (.t (.i .i64 0)), (.t (.i .i64 0)), (.t (.i .i64 0)), (.t (.i .i64 0)), (.t (.i .i64 0)), (.t (.i .i64 0)), (.t (.i .i64 0)), (.t (.i .i64 0)), (.t (.i .i64 0)), (.t (.i .i64 0)), (.t (.i .i64 0)), (.t (.i .i64 0)), (.t (.i .i64 0)), (.t (.i .i64 0)), (.t (.i .i64 0)), (.t (.i .i64 0)), (.t (.i .i64 0)), (.t (.i .i64 0)), (.t (.i .i64 0)), (.t (.i .i64 0)), (.t (.i .i64 0)), (.t (.i .i64 0)), (.t (.i .i64 0)), (.t (.i .i64 0)), (.t (.i .i64 0)), (.t (.i .i64 0)), (.t (.i .i64 0)), (.t (.i .i64 0)), (.t (.i .i64 0)), (.t (.i .i64 0)), (.t (.i .i64 0)), (.t (.i .i64 0)), (.t (.i .i64 0)), (.t (.i .i64 0)), (.t (.i .i64 0)), (.t (.i .i64 0)), (.t (.i .i64 0)), (.t (.i .i64 0)), (.t (.i .i64 0)), (.t (.i .i64 0)), (.t (.i .i64 0)), (.t (.i .i64 0)), (.t (.i .i64 0)), (.t (.i .i64 0)), (.t (.i .i64 0)), (.t (.i .i64 0)), (.t (.i .i64 0)), (.t (.i .i64 0)), (.t (.i .i64 0)), (.t (.i .i64 0)), (.t (.i .i64 0)), (.t (.i .i64 0)), (.t (.i .i64 0)), (.t (.i .i64 0)), (.t (.i .i64 0)), (.t (.i .i64 0)), (.t (.i .i64 0)), (.t (.i .i64 0)), (.t (.i .i64 0)), (.t (.i .i64 0)), (.t (.i .i64 0)), (.t (.i .i64 0)), (.t (.i .i64 0)), (.t (.i .i64 0)), (.t (.i .i64 0)), (.t (.i .i64 0)), (.t (.i .i64 0)), (.t (.i .i64 0)), (.t (.i .i64 0)), (.t (.i .i64 0)), (.t (.i .i64 0)), (.t (.i .i64 0)), (.t (.i .i64 0)), (.t (.i .i64 0)), (.t (.i .i64 0)), (.t (.i .i64 0)), (.t (.i .i64 0)), (.t (.i .i64 0)), (.t (.i .i64 0)), (.t (.i .i64 0)), (.t (.i .i64 0)), (.t (.i .i64 0)), (.t (.i .i64 0)), (.t (.i .i64 0)), (.t (.i .i64 0)), (.t (.i .i64 0)), (.t (.i .i64 0)), (.t (.i .i64 0)), (.t (.i .i64 0)), (.t (.i .i64 0)), (.t (.i .i64 0)), (.t (.i .i64 0)), (.t (.i .i64 0)), (.t (.i .i64 0)), (.t (.i .i64 0)), (.t (.i .i64 0)), (.t (.i .i64 0)), (.t (.i .i64 0)), (.t (.i .i64 0)), (.t (.i .i64 0)), (.t (.i .i64 0)), (.t (.i .i64 0)), (.t (.i .i64 0)), (.t (.i .i64 0)), (.t (.i .i64 0)), (.t (.i .i64 0)), (.t (.i .i64 0)), (.t (.i .i64 0)), (.t (.i .i64 0)), (.t (.i .i64 0)), (.t (.i .i64 0)), (.t (.i .i64 0)), (.t (.i .i64 0)), (.t (.i .i64 0)), (.t (.i .i64 0)), (.t (.i .i64 0)), (.t (.i .i64 0)), (.t (.i .i64 0)), (.t (.i .i64 0)), (.t (.i .i64 0)), (.t (.i .i64 0)), (.t (.i .i64 0)), (.t (.i .i64 0)), (.t (.i .i64 0)), (.t (.i .i64 0)), (.t (.i .i64 0)), (.t (.i .i64 0)), (.t (.i .i64 0)), (.t (.i .i64 0)), (.t (.i .i64 0)), (.t (.i .i64 0)), (.t (.i .i64 0)), (.t (.i .i64 0)), (.t (.i .i64 0)), (.t (.i .i64 0))], none⟩)]
abbrev f4r0 : Pc := .reg f4o0 [1, 2, 3, 6] []
abbrev f4o1 : List (Nat × Pop) := [
  (0, ⟨(some 10), .mv (.tmp 1), none⟩)]
abbrev f4r1 : Pc := .reg f4o1 [1, 2, 3, 6, 10] []
abbrev f4o2 : List (Nat × Pop) := [
  (0, ⟨(some 12), .bin .eql (.tmp 10) (.c (.t (.i .i64 0))), none⟩),
  (1, ⟨(some 11), .mv (.tmp 12), none⟩)]
abbrev f4r2 : Pc := .reg f4o2 [1, 2, 3, 6, 10, 11] []
abbrev f4o3 : List (Nat × Pop) := [
  (0, ⟨(some 14), .fad 0 (.tmp 3), none⟩),
  (1, ⟨(some 15), .load true 4 (.tmp 14), none⟩),
  (2, ⟨(some 16), .fad 266 (.tmp 3), none⟩),
  (3, ⟨(some 17), .load false 1 (.tmp 16), none⟩),
  (4, ⟨(some 18), .callq 10 [(.tmp 17)], none⟩),
  (5, ⟨(some 19), .callq 9 [(.tmp 15), (.tmp 18)], none⟩),
  (6, ⟨(some 13), .mv (.tmp 19), none⟩),
  (7, ⟨(some 20), .ext 0 (.tmp 13), none⟩),
  (8, ⟨(some 21), .ext 1 (.tmp 13), none⟩),
  (9, ⟨(some 22), .ext 2 (.tmp 13), none⟩),
  (10, ⟨(some 7), .alloc 30 [(.t (.i .i64 0)), .nl, (.t (.i .i64 0)), .nl], none⟩),
  (11, ⟨none, .store 4 (.tmp 7) (.tmp 20), none⟩),
  (12, ⟨(some 8), .mv (.tmp 21), none⟩),
  (13, ⟨(some 9), .mv (.tmp 22), none⟩)]
abbrev f4r3 : Pc := .reg f4o3 [3, 6, 7, 8, 9] []
abbrev f4o4 : List (Nat × Pop) := [
  (0, ⟨(some 23), .mv (.tmp 9), none⟩),
  (1, ⟨(some 24), .bin .eql (.tmp 23) (.c (.t (.i .i64 0))), none⟩),
  (2, ⟨(some 25), .mv (.tmp 24), none⟩),
  (3, ⟨(some 26), .fad 266 (.tmp 3), (some (25, true))⟩),
  (4, ⟨(some 27), .load false 1 (.tmp 26), (some (25, true))⟩),
  (5, ⟨(some 28), .bin .lss (.tmp 27) (.c (.t (.i .i64 250))), (some (25, true))⟩),
  (6, ⟨(some 29), .pick (.tmp 25) (.tmp 28) (.c (.t (.b false))), none⟩),
  (7, ⟨(some 30), .mv (.tmp 29), none⟩),
  (8, ⟨(some 31), .fad 8 (.tmp 3), (some (30, true))⟩),
  (9, ⟨(some 32), .load false 1 (.tmp 31), (some (30, true))⟩),
  (10, ⟨(some 33), .lenL (.tmp 32), (some (30, true))⟩),
  (11, ⟨(some 34), .bin .lss (.tmp 33) (.c (.t (.i .i64 300))), (some (30, true))⟩),
  (12, ⟨(some 35), .pick (.tmp 30) (.tmp 34) (.c (.t (.b false))), none⟩)]
abbrev f4r4 : Pc := .reg f4o4 [3, 6, 7, 8, 35] []
abbrev f4o5 : List (Nat × Pop) := [
  (0, ⟨(some 36), .load true 4 (.tmp 7), none⟩),
  (1, ⟨(some 37), .fad 0 (.tmp 3), none⟩),
  (2, ⟨none, .store 4 (.tmp 37) (.tmp 36), none⟩)]
abbrev f4r5 : Pc := .reg f4o5 [3, 6, 8] [7]
abbrev f4o6 : List (Nat × Pop) := [
  (0, ⟨(some 38), .bslO 9 1 [], none⟩),
  (1, ⟨(some 39), .fad 8 (.tmp 3), none⟩),
  (2, ⟨(some 40), .load false 1 (.tmp 39), none⟩),
  (3, ⟨(some 41), .app 9 1 16 (.tmp 38) (.tmp 40), none⟩),
  (4, ⟨(some 42), .mv (.tmp 8), none⟩),
  (5, ⟨(some 43), .bslT 1 [(.tmp 42)], none⟩),
  (6, ⟨(some 44), .app 9 1 16 (.tmp 41) (.tmp 43), none⟩),
  (7, ⟨(some 45), .fad 8 (.tmp 3), none⟩),
  (8, ⟨none, .store 1 (.tmp 45) (.tmp 44), none⟩)]
abbrev f4r6 : Pc := .reg f4o6 [3, 6] []
abbrev f4o7 : List (Nat × Pop) := [
  (0, ⟨(some 46), .fad 266 (.tmp 3), none⟩),
  (1, ⟨(some 47), .load false 1 (.tmp 46), none⟩),
  (2, ⟨(some 48), .bin .add (.tmp 47) (.c (.t (.i .i64 1))), none⟩),
  (3, ⟨(some 49), .fad 266 (.tmp 3), none⟩),
  (4, ⟨none, .store 1 (.tmp 49) (.tmp 48), none⟩)]
abbrev f4r7 : Pc := .reg f4o7 [3, 6] []
abbrev f4o8 : List (Nat × Pop) := [
  (0, ⟨(some 51), .bin .eql (.tmp 10) (.c (.t (.i .i64 1))), none⟩),
  (1, ⟨(some 50), .mv (.tmp 51), none⟩)]
abbrev f4r8 : Pc := .reg f4o8 [1, 2, 3, 6, 10, 50] []
abbrev f4o9 : List (Nat × Pop) := [
  (0, ⟨(some 52), .bin .eql (.tmp 10) (.c (.t (.i .i64 2))), none⟩),
  (1, ⟨(some 50), .mv (.tmp 52), none⟩)]
abbrev f4r9 : Pc := .reg f4o9 [1, 2, 3, 6, 10, 50] []
abbrev f4o10 : List (Nat × Pop) := [
  (0, ⟨(some 53), .load true 267 (.tmp 3), none⟩),
  (1, ⟨(some 54), .mv (.tmp 2), none⟩),
  (2, ⟨(some 55), .mv (.tmp 1), none⟩),
  (3, ⟨(some 56), .bin .eql (.tmp 55) (.c (.t (.i .i64 2))), none⟩),
  (4, ⟨(some 57), .call 7 [(.tmp 53), (.tmp 54), (.tmp 56)], none⟩),
  (5, ⟨none, .store 267 (.tmp 6) (.tmp 57), none⟩)]
abbrev f4r10 : Pc := .reg f4o10 [6] [3]
abbrev f4o11 : List (Nat × Pop) := [
  (0, ⟨(some 59), .bin .eql (.tmp 10) (.c (.t (.i .i64 3))), none⟩),
  (1, ⟨(some 58), .mv (.tmp 59), none⟩)]
abbrev f4r11 : Pc := .reg f4o11 [2, 3, 6, 10, 58] []
abbrev f4o12 : List (Nat × Pop) := [
  (0, ⟨(some 60), .fad 8 (.tmp 3), none⟩),
  (1, ⟨(some 61), .load false 1 (.tmp 60), none⟩),
  (2, ⟨(some 62), .lenL (.tmp 61), none⟩),
  (3, ⟨(some 63), .bin .gtr (.tmp 62) (.c (.t (.i .i64 0))), none⟩)]
abbrev f4r12 : Pc := .reg f4o12 [2, 3, 6, 63] []
abbrev f4o13 : List (Nat × Pop) := [
  (0, ⟨(some 64), .fad 8 (.tmp 3), none⟩),
  (1, ⟨(some 65), .load false 1 (.tmp 64), none⟩),
  (2, ⟨(some 66), .mv (.tmp 2), none⟩),
  (3, ⟨(some 67), .fad 8 (.tmp 3), none⟩),
  (4, ⟨(some 68), .load false 1 (.tmp 67), none⟩),
  (5, ⟨(some 69), .lenL (.tmp 68), none⟩),
  (6, ⟨(some 70), .bin .rem (.tmp 66) (.tmp 69), none⟩),
  (7, ⟨(some 71), .callq 11 [(.tmp 65), (.tmp 70)], none⟩),
  (8, ⟨(some 72), .fad 8 (.tmp 3), none⟩),
  (9, ⟨none, .store 1 (.tmp 72) (.tmp 71), none⟩)]
abbrev f4r13 : Pc := .reg f4o13 [3, 6] []
abbrev f4o14 : List (Nat × Pop) := [
  (0, ⟨(some 74), .bin .eql (.tmp 10) (.c (.t (.i .i64 4))), none⟩),
  (1, ⟨(some 73), .mv (.tmp 74), none⟩)]
abbrev f4r14 : Pc := .reg f4o14 [2, 3, 6, 10, 73] []
abbrev f4o15 : List (Nat × Pop) := [
  (0, ⟨(some 75), .load true 267 (.tmp 3), none⟩),
  (1, ⟨(some 76), .mv (.tmp 2), none⟩),
  (2, ⟨(some 77), .call 5 [(.tmp 75), (.tmp 76)], none⟩),
  (3, ⟨none, .store 267 (.tmp 6) (.tmp 77), none⟩)]
abbrev f4r15 : Pc := .reg f4o15 [6] [3]
abbrev f4o16 : List (Nat × Pop) := [
  (0, ⟨(some 79), .bin .eql (.tmp 10) (.c (.t (.i .i64 5))), none⟩),
  (1, ⟨(some 78), .mv (.tmp 79), none⟩)]
abbrev f4r16 : Pc := .reg f4o16 [2, 3, 6, 10, 78] []
abbrev f4o17 : List (Nat × Pop) := [
  (0, ⟨(some 80), .fad 9 (.tmp 3), none⟩),
  (1, ⟨(some 81), .load false 1 (.tmp 80), none⟩),
  (2, ⟨(some 82), .lenL (.tmp 81), none⟩),
  (3, ⟨(some 83), .bin .gtr (.tmp 82) (.c (.t (.i .i64 0))), none⟩)]
abbrev f4r17 : Pc := .reg f4o17 [2, 3, 6, 83] []
abbrev f4o18 : List (Nat × Pop) := [
  (0, ⟨(some 84), .fad 9 (.tmp 3), none⟩),
  (1, ⟨(some 85), .load false 1 (.tmp 84), none⟩),
  (2, ⟨(some 86), .mv (.tmp 2), none⟩),
  (3, ⟨(some 87), .fad 9 (.tmp 3), none⟩),
  (4, ⟨(some 88), .load false 1 (.tmp 87), none⟩),
  (5, ⟨(some 89), .lenL (.tmp 88), none⟩),
  (6, ⟨(some 90), .bin .rem (.tmp 86) (.tmp 89), none⟩),
  (7, ⟨(some 91), .callq 11 [(.tmp 85), (.tmp 90)], none⟩),
  (8, ⟨(some 92), .fad 9 (.tmp 3), none⟩),
  (9, ⟨none, .store 1 (.tmp 92) (.tmp 91), none⟩)]
abbrev f4r18 : Pc := .reg f4o18 [3, 6] []
abbrev f4o19 : List (Nat × Pop) := [
  (0, ⟨(some 94), .bin .eql (.tmp 10) (.c (.t (.i .i64 6))), none⟩),
  (1, ⟨(some 93), .mv (.tmp 94), none⟩)]
abbrev f4r19 : Pc := .reg f4o19 [3, 6, 93] []
abbrev f4o20 : List (Nat × Pop) := [
  (0, ⟨(some 95), .fad 8 (.tmp 3), none⟩),
  (1, ⟨(some 96), .load false 1 (.tmp 95), none⟩),
  (2, ⟨(some 97), .lenL (.tmp 96), none⟩),
  (3, ⟨(some 98), .bin .lss (.tmp 97) (.c (.t (.i .i64 200))), none⟩)]
abbrev f4r20 : Pc := .reg f4o20 [3, 6, 98] []
abbrev f4o21 : List (Nat × Pop) := [
  (0, ⟨(some 99), .bslO 9 1 [], none⟩),
  (1, ⟨(some 100), .fad 8 (.tmp 3), none⟩),
  (2, ⟨(some 101), .loadB false 1 (.tmp 100), none⟩),
  (3, ⟨(some 102), .appU 9 1 16 (.tmp 99) (.tmp 101), none⟩),
  (4, ⟨(some 103), .fad 0 (.tmp 3), none⟩),
  (5, ⟨(some 104), .loadB true 4 (.tmp 103), none⟩),
  (6, ⟨(some 105), .callq 6 [(.tmp 104)], none⟩),
  (7, ⟨(some 106), .app 9 1 16 (.tmp 102) (.tmp 105), none⟩),
  (8, ⟨(some 107), .fad 8 (.tmp 3), none⟩),
  (9, ⟨none, .store 1 (.tmp 107) (.tmp 106), none⟩)]
abbrev f4r21 : Pc := .reg f4o21 [3, 6] []
abbrev f4o22 : List (Nat × Pop) := [
  (0, ⟨(some 108), .load true 267 (.tmp 3), none⟩),
  (1, ⟨none, .store 267 (.tmp 6) (.tmp 108), none⟩)]
abbrev f4r22 : Pc := .reg f4o22 [6] [3, 7]
abbrev f4b : Pc := (.seq f4r0 (.seq (.seq f4r1 (.block 0 (.seq f4r2 (.cond (.tmp 11) (.seq f4r3 (.seq f4r4 (.cond (.tmp 35) (.seq f4r5 (.seq f4r6 f4r7)) .skip))) (.seq (.seq f4r8 (.cond (.tmp 50) .skip f4r9)) (.cond (.tmp 50) (.seq f4r10 .ret) (.seq f4r11 (.cond (.tmp 58) (.seq f4r12 (.cond (.tmp 63) f4r13 .skip)) (.seq f4r14 (.cond (.tmp 73) (.seq f4r15 .ret) (.seq f4r16 (.cond (.tmp 78) (.seq f4r17 (.cond (.tmp 83) f4r18 .skip)) (.seq f4r19 (.cond (.tmp 93) (.seq f4r20 (.cond (.tmp 98) f4r21 .skip)) .skip)))))))))))))) (.seq f4r22 .ret)))
abbrev f4 : Pfn := ⟨3, 109, [.cell 6 true 267], f4b⟩
def f4K : Array (List Nat) := #[[1, 2, 3, 6], [1, 2, 3, 6, 10], [1, 2, 3, 6, 10, 11], [3, 6, 7, 8, 9], [3, 6, 7, 8, 35], [3, 6, 8], [3, 6], [3, 6], [1, 2, 3, 6, 10, 50], [1, 2, 3, 6, 10, 50], [6], [2, 3, 6, 10, 58], [2, 3, 6, 63], [3, 6], [2, 3, 6, 10, 73], [6], [2, 3, 6, 10, 78], [2, 3, 6, 83], [3, 6], [3, 6, 93], [3, 6, 98], [3, 6], [6]]
def f4H : Array (List Nat) := #[[], [], [], [], [], [7], [], [], [], [], [3], [], [], [], [], [3], [], [], [], [], [], [], [3, 7]]
def f4A : Ann := ⟨fun r => f4K.getD r [], fun r => f4H.getD r [], fun r i => ([(6, 0), (21, 0), (21, 2), (21, 2003), (21, 5), (6, 0), (21, 0)] : List (Nat × Nat)).contains (r, i)⟩
theorem f4C : compF Try.prog f4A 4 = some f4 := by kernel_rfl

/-- switchboard/switchboardlaw23.tell -/
abbrev f5o0 : List (Nat × Pop) := [
  (0, ⟨(some 2), .box 34 267 (.tmp 0), none⟩),
  (1, ⟨(some 4), .alloc 34 [(.t (.i .i64 0)), .nl, (.t (.i .i64 0)), .nl, (.t (.i .i64 0)), .nl, (.t (.i .i64 0)), .nl, .nl, .nl, (.t (.i .i64 0)), (.t (.i .i64 0)), (.t (.i .i64 0)), (.t (.i .i64 0)), (.t (.i .i64 0)), (.t (.i .i64 0)), (.t (.i .i64 0)), (.t (.i .i64 0)), (.t (.i .i64 0)), (.t (.i .i64 0)), (.t (.i .i64 0)), (.t (.i .i64 0)), (.t (.i .i64 0)), (.t (.i .i64 0)), (.t (.i .i64 0)), (.t (.i .i64 0)), (.t (.i .i64 0)), (.t (.i .i64 0)), (.t (.i .i64 0)), (.t (.i .i64 0)), (.t (.i .i64 0)), (.t (.i .i64 0)), (.t (.i .i64 0)), (.t (.i .i64 0)), (.t (.i .i64 0)), (.t (.i .i64 0)), (.t (.i .i64 0)), (.t (.i .i64 0)), (.t (.i .i64 0)), (.t (.i .i64 0)), (.t (.i .i64 0)), (.t (.i .i64 0)), (.t (.i .i64 0)), (.t (.i .i64 0)), (.t (.i .i64 0)), (.t (.i .i64 0)), (.t (.i .i64 0)), (.t (.i .i64 0)), (.t (.i .i64 0)), (.t (.i .i64 0)), (.t (.i .i64 0)), (.t (.i .i64 0)), (.t (.i .i64 0)), (.t (.i .i64 0)), (.t (.i .i64 0)), (.t (.i .i64 0)), (.t (.i .i64 0)), (.t (.i .i64 0)), (.t (.i .i64 0)), (.t (.i .i64 0)), (.t (.i .i64 0)), (.t (.i .i64 0)), (.t (.i .i64 0)), (.t (.i .i64 0)), (.t (.i .i64 0)), (.t (.i .i64 0)), (.t (.i .i64 0)), (.t (.i .i64 0)), (.t (.i .i64 0)), (.t (.i .i64 0)), (.t (.i .i64 0)), (.t (.i .i64 0)), (.t (.i .i64 0)), (.t (.i .i64 0)), (.t (.i .i64 0)), (.t (.i .i64 0)), (.t (.i .i64 0)), (.t (.i .i64 0)), (.t (.i .i64 0)), (.t (.i .i64 0)), (.t (.i .i64 0)), (.t (.i .i64 0)), (.t (.i .i64 0)), (.t (.i .i64 0)), (.t (.i .i64 0)), (.t (.i .i64 0)), (.t (.i .i64 0)), (.t (.i .i64 0)), (.t (.i .i64 0)), (.t (.i .i64 0)), (.t (.i .i64 0)), (.t (.i .i64 0)), (.t (.i .i64 0)), (.t (.i .i64 0)), (.t (.i .i64 0)), (.t (.i .i64 0)), (.t (.i .i64 0)), (.t (.i .i64 0)), (.t (.i .i64 0)), (.t (.i .i64 0)), (.t (.i .i64 0)), (.t (.i .i64 0)), (.t (.i .i64 0)), (.t (.i .i64 0)), (.t (.i .i64 0)), (.t (.i .i64 0)), (.t (.i .i64 0)), (.t (.i .i64 0)), (.t (.i .i64 0)), (.t (.i .i64 0)), (.t (.i .i64 0)), (.t (.i .i64 0)), (.t (.i .i64 0)), (.t (.i .i64 0)), (.t (.i .i64 0)), (.t (.i .i64 0)), (.t (.i .i64 0)), (.t (.i .i64 0)), (.t (.i .i64 0)), (.t (.i .i64 0)), (.t (.i .i64 0)), (.t (.i .i64 0)), (.t (.i .i64 0)), (.t (.i .i64 0)), (.t (.i .i64 0)), (.t (.i .i64 0)), (.t (.i .i64 0)), (.t (.i .i64 0)), (.t (.i .i64 0)), (.t (.i .i64 0)), (.t (.i .i64 0)), (.t (.i .i64 0)), (.t (.i .i64 0)), (.t (.i .i64 0)), (.t (.i .i64 0)), (.t (.i .i64 0)), (.t (.i .i64 0)), (.t (.i .i64 0)), (.t (.i .i64 0)), (.t (.i .i64 0)), (.t (.i .i64 0)), (.t (.i .i64 0)), (.t (.i .i64 0)), (.t (.i .i64 0)), (.t (.i .i64 0)), (.t (.i .i64 0)), (.t (.i .i64 0)), (.t (.i .i64 0)), (.t (.i .i64 0)), (.t (.i .i64 0)), (.t (.i .i64 0)), (.t (.i .i64 0)), (.t (.i .i64 0)), (.t (.i .i64 0)), (.t (.i .i64 0)), (.t (.i .i64 0)), (.t (.i .i64 0)), (.t (.i .i64 0)), (.t (.i .i64 0)), (.t (.i .i64 0)), (.t (.i .i64 0)), (.t (.i .i64 0)), (.t (.i .i64 0)), (.t (.i .i64 0)), (.t (.i .i64 0)), (.t (.i .i64 0)), (.t (.i .i64 0)), (.t (.i .i64 0)), (.t (.i .i64 0)), (.t (.i .i64 0)), (.t (.i .i64 0)), (.t (.i .i64 0)), (.t (.i .i64 0)), (.t (.i .i64 0)), (.t (.i .i64 0)), (.t (.i .i64 0)), (.t (.i .i64 0)), (.t (.i .i64 0)), (.t (.i .i64 0)), (.t (.i .i64 0)), (.t (.i .i64 0)), (.t (.i .i64 0)), (.t (.i .i64 0)), (.t (.i .i64 0)), (.t (.i .i64 0)), (.t (.i .i64 0)), (.t (.i .i64 0)), (.t (.i .i64 0)), (.t (.i .i64 0)), (.t (.i .i64 0)), (.t (.i .i64 0)), (.t (.i .i64 0)), (.t (.i .i64 0)), (.t (.i .i64 0)), (.t (.i .i64 0)), (.t (.i .i64 0)), (.t (.i .i64 0)), (.t (.i .i64 0)), (.t (.i .i64 0)), (.t (.i .i64 0)), (.t (.i .i64 0)), (.t (.i .i64 0)), (.t (.i .i64 0)), (.t (.i .i64 0)), (.t (.i .i64 0)), (.t (.i .i64 0)), (.t (.i .i64 0)), (.t (.i .i64 0)), (.t (.i .i64 0)), (.t (.i .i64 0)), (.t (.i .i64 0)), (.t (.i .i64 0)), (.t (.i .i64 0)), (.t (.i .i64 0)), (.t (.i .i64 0)), (.t (.i .i64 0)), (.t (.i .i64 0)), (.t (.i .i64 0)), (.t (.i .i64 0)), (.t (.i .i64 0)), (.t (.i .i64 0)), (.t (.i .i64 0)), (.t (.i .i64 0)), (.t (.i .i64 0)), (.t (.i .i64 0)), (.t (.i .i64 0)), (.t (.i .i64 0)), (.t (.i .i64 0)), (.t (.i .i64 0)), (.t (.i .i64 0)), (.t (.i .i64 0)), (.t (.i .i64 0)), (.t (.i .i64 0)), (.t (.i .i64 0)), (.t (.i .i64 0)), (.t (.i .i64 0)), (.t (.i .i64 0)), (.t (.i .i64 0)), (.t (.i .i64 0)), (.t (.i .i64 0)), (.t (.i .i64 0)), (.t (.i .i64 0)), (.t (.i .i64 0)), (.t (.i .i64 0)), (.t (.i .i64 0)), (.t (.i .i64 0)), (.t (.i .i64 0)), (.t (.i .i64 0)), (.t (.i .i64 0)), (.t (.i .i64 0)), (.t (.i .i64 0)), (.t (.i .i64 0)), (.t (.i .i64 0)), (.t (.i .i64 0)), (.t (.i .i64 0)), (.t (.i .i64 0)), (.t (.i .i64 0)), (.t (.i .i64 0)), (.t (.i .i64 0)), (.t (.i .i64 0)), (.t (.i .i64 0)), (.t (.i .i64 0)), (.t (.i .i64 0)), (.t (.i .i64 0)), (.t (.i .i64 0)), (.t (.i .i64 0)), (.t (.i .i64 0))], none⟩)]
abbrev f5r0 : Pc := .reg f5o0 [1, 2, 4] []
abbrev f5o1 : List (Nat × Pop) := [
  (0, ⟨(some 10), .fad 9 (.tmp 2), none⟩),
  (1, ⟨(some 11), .load false 1 (.tmp 10), none⟩),
  (2, ⟨(some 12), .lenL (.tmp 11), none⟩),
  (3, ⟨(some 13), .bin .eql (.tmp 12) (.c (.t (.i .i64 0))), none⟩)]
abbrev f5r1 : Pc := .reg f5o1 [1, 2, 4, 13] []
abbrev f5o2 : List (Nat × Pop) := [
  (0, ⟨(some 14), .load true 267 (.tmp 2), none⟩),
  (1, ⟨none, .store 267 (.tmp 4) (.tmp 14), none⟩)]
abbrev f5r2 : Pc := .reg f5o2 [4] [2]
abbrev f5o3 : List (Nat × Pop) := [
  (0, ⟨(some 15), .mv (.tmp 1), none⟩),
  (1, ⟨(some 16), .fad 9 (.tmp 2), none⟩),
  (2, ⟨(some 17), .load false 1 (.tmp 16), none⟩),
  (3, ⟨(some 18), .lenL (.tmp 17), none⟩),
  (4, ⟨(some 19), .bin .rem (.tmp 15) (.tmp 18), none⟩),
  (5, ⟨(some 1), .mv (.tmp 19), none⟩)]
abbrev f5r3 : Pc := .reg f5o3 [1, 2, 4] []
abbrev f5o4 : List (Nat × Pop) := [
  (0, ⟨(some 21), .fad 0 (.tmp 2), none⟩),
  (1, ⟨(some 22), .load true 4 (.tmp 21), none⟩),
  (2, ⟨(some 23), .fad 9 (.tmp 2), none⟩),
  (3, ⟨(some 24), .load false 1 (.tmp 23), none⟩),
  (4, ⟨(some 25), .mv (.tmp 1), none⟩),
  (5, ⟨(some 26), .ixS 1 (.tmp 24) (.tmp 25), none⟩),
  (6, ⟨(some 27), .load false 1 (.tmp 26), none⟩),
  (7, ⟨(some 28), .callq 12 [(.tmp 22), (.tmp 27)], none⟩),
  (8, ⟨(some 20), .mv (.tmp 28), none⟩),
  (9, ⟨(some 29), .ext 0 (.tmp 20), none⟩),
  (10, ⟨(some 30), .ext 1 (.tmp 20), none⟩),
  (11, ⟨(some 31), .ext 2 (.tmp 20), none⟩),
  (12, ⟨(some 32), .ext 3 (.tmp 20), none⟩),
  (13, ⟨(some 33), .ext 4 (.tmp 20), none⟩),
  (14, ⟨(some 5), .alloc 30 [(.t (.i .i64 0)), .nl, (.t (.i .i64 0)), .nl], none⟩),
  (15, ⟨none, .store 4 (.tmp 5) (.tmp 29), none⟩),
  (16, ⟨(some 6), .mv (.tmp 30), none⟩),
  (17, ⟨(some 7), .mv (.tmp 31), none⟩),
  (18, ⟨(some 8), .mv (.tmp 32), none⟩),
  (19, ⟨(some 9), .mv (.tmp 33), none⟩)]
abbrev f5r4 : Pc := .reg f5o4 [1, 2, 4, 5] []
abbrev f5o5 : List (Nat × Pop) := [
  (0, ⟨(some 34), .load true 4 (.tmp 5), none⟩),
  (1, ⟨(some 35), .fad 0 (.tmp 2), none⟩),
  (2, ⟨none, .store 4 (.tmp 35) (.tmp 34), none⟩)]
abbrev f5r5 : Pc := .reg f5o5 [1, 2, 4] [5]
abbrev f5o6 : List (Nat × Pop) := [
  (0, ⟨(some 36), .fad 9 (.tmp 2), none⟩),
  (1, ⟨(some 37), .load false 1 (.tmp 36), none⟩),
  (2, ⟨(some 38), .mv (.tmp 1), none⟩),
  (3, ⟨(some 39), .call 11 [(.tmp 37), (.tmp 38)], none⟩),
  (4, ⟨(some 40), .fad 9 (.tmp 2), none⟩),
  (5, ⟨none, .store 1 (.tmp 40) (.tmp 39), none⟩)]
abbrev f5r6 : Pc := .reg f5o6 [2, 4] []
abbrev f5o7 : List (Nat × Pop) := [
  (0, ⟨(some 41), .load true 267 (.tmp 2), none⟩),
  (1, ⟨none, .store 267 (.tmp 4) (.tmp 41), none⟩)]
abbrev f5r7 : Pc := .reg f5o7 [4] [2]
abbrev f5b : Pc := (.seq f5r0 (.seq (.seq f5r1 (.cond (.tmp 13) (.seq f5r2 .ret) .skip)) (.seq f5r3 (.seq f5r4 (.seq f5r5 (.seq f5r6 (.seq f5r7 .ret)))))))
abbrev f5 : Pfn := ⟨2, 42, [.cell 4 true 267], f5b⟩
def f5K : Array (List Nat) := #[[1, 2, 4], [1, 2, 4, 13], [4], [1, 2, 4], [1, 2, 4, 5], [1, 2, 4], [2, 4], [4]]
def f5H : Array (List Nat) := #[[], [], [2], [], [], [5], [], [2]]
def f5A : Ann := ⟨fun r => f5K.getD r [], fun r => f5H.getD r [], fun r i => ([] : List (Nat × Nat)).contains (r, i)⟩
theorem f5C : compF Try.prog f5A 5 = some f5 := by kernel_rfl

/-- switchboard/port.Again -/
abbrev f6o0 : List (Nat × Pop) := [
  (0, ⟨(some 1), .box 30 4 (.tmp 0), none⟩),
  (1, ⟨(some 2), .nilv 9 1, none⟩)]
abbrev f6r0 : Pc := .reg f6o0 [1] [2, 3, 29]
abbrev f6o1 : List (Nat × Pop) := [
  (0, ⟨(some 3), .nilv 9 1, none⟩)]
abbrev f6r1 : Pc := .reg f6o1 [1, 3] []
abbrev f6o2 : List (Nat × Pop) := [
  (0, ⟨(some 8), .fad 0 (.tmp 1), none⟩),
  (1, ⟨(some 9), .fad 1 (.tmp 8), none⟩),
  (2, ⟨(some 10), .load false 1 (.tmp 9), none⟩),
  (3, ⟨(some 11), .lenL (.tmp 10), none⟩),
  (4, ⟨(some 12), .mv (.c (.t (.i .i64 0))), none⟩)]
abbrev f6r2 : Pc := .reg f6o2 [3, 10, 11, 12] [1]
abbrev f6o3 : List (Nat × Pop) := [
  (0, ⟨(some 13), .bin .lss (.tmp 12) (.tmp 11), none⟩)]
abbrev f6r3 : Pc := .reg f6o3 [3, 10, 11, 12, 13] []
abbrev f6o4 : List (Nat × Pop) := [
  (0, ⟨(some 14), .ixS 2 (.tmp 10) (.tmp 12), none⟩),
  (1, ⟨(some 15), .load true 2 (.tmp 14), none⟩),
  (2, ⟨(some 5), .alloc 50 [(.t (.i .i64 0)), (.t (.s []))], none⟩),
  (3, ⟨none, .store 2 (.tmp 5) (.tmp 15), none⟩)]
abbrev f6r4 : Pc := .reg f6o4 [3, 5, 10, 11, 12] []
abbrev f6o5 : List (Nat × Pop) := [
  (0, ⟨(some 17), .fad 0 (.tmp 5), none⟩),
  (1, ⟨(some 18), .load false 1 (.tmp 17), none⟩),
  (2, ⟨(some 19), .fad 1 (.tmp 5), none⟩),
  (3, ⟨(some 20), .load false 1 (.tmp 19), none⟩),
  (4, ⟨(some 21), .call 13 [(.c (.t (.i .u8 68))), (.tmp 18), (.tmp 20)], none⟩),
  (5, ⟨(some 16), .mv (.tmp 21), none⟩),
  (6, ⟨(some 22), .ext 0 (.tmp 16), none⟩),
  (7, ⟨(some 23), .ext 1 (.tmp 16), none⟩),
  (8, ⟨(some 6), .mv (.tmp 22), none⟩),
  (9, ⟨(some 7), .mv (.tmp 23), none⟩)]
abbrev f6r5 : Pc := .reg f6o5 [3, 6, 7, 10, 11, 12] [5]
abbrev f6o6 : List (Nat × Pop) := [
  (0, ⟨(some 24), .mv (.tmp 7), none⟩),
  (1, ⟨(some 25), .bin .eql (.tmp 24) (.c (.t (.i .i64 0))), none⟩)]
abbrev f6r6 : Pc := .reg f6o6 [3, 6, 10, 11, 12, 25] []
abbrev f6o7 : List (Nat × Pop) := [
  (0, ⟨(some 26), .mv (.tmp 3), none⟩),
  (1, ⟨(some 27), .mv (.tmp 6), none⟩),
  (2, ⟨(some 28), .bslT 1 [(.tmp 27)], none⟩),
  (3, ⟨(some 29), .app 9 1 16 (.tmp 26) (.tmp 28), none⟩),
  (4, ⟨(some 3), .mv (.tmp 29), none⟩)]
abbrev f6r7 : Pc := .reg f6o7 [3, 10, 11, 12] []
abbrev f6o8 : List (Nat × Pop) := [
  (0, ⟨(some 30), .bin .add (.tmp 12) (.c (.t (.i .i64 1))), none⟩),
  (1, ⟨(some 12), .mv (.tmp 30), none⟩)]
abbrev f6r8 : Pc := .reg f6o8 [3, 10, 11, 12] []
def f6l0 : Pc := (.seq f6r3 (.seq (.cond (.tmp 13) .skip (.exit 0)) (.seq (.block 1 (.seq f6r4 (.seq f6r5 (.seq f6r6 (.cond (.tmp 25) f6r7 .skip))))) f6r8)))
theorem f6l0e (C : Cfg) (s : St) : evL C f6l0 s = evL C (.seq f6r3 (.seq (.cond (.tmp 13) .skip (.exit 0)) (.seq (.block 1 (.seq f6r4 (.seq f6r5 (.seq f6r6 (.cond (.tmp 25) f6r7 .skip))))) f6r8))) s := rfl
abbrev f6o9 : List (Nat × Pop) := [
  (0, ⟨(some 31), .mv (.tmp 3), none⟩),
  (1, ⟨(some 2), .mv (.tmp 31), none⟩)]
abbrev f6r9 : Pc := .reg f6o9 [2] []
abbrev f6b : Pc := (.seq f6r0 (.seq f6r1 (.seq (.seq f6r2 (.block 0 (.loop f6l0))) (.seq f6r9 .ret))))
abbrev f6 : Pfn := ⟨1, 32, [.tmp 2], f6b⟩
def f6K : Array (List Nat) := #[[1], [1, 3], [3, 10, 11, 12], [3, 10, 11, 12, 13], [3, 5, 10, 11, 12], [3, 6, 7, 10, 11, 12], [3, 6, 10, 11, 12, 25], [3, 10, 11, 12], [3, 10, 11, 12], [2]]
def f6H : Array (List Nat) := #[[2, 3, 29], [], [1], [], [], [5], [], [], [], []]
def f6A : Ann := ⟨fun r => f6K.getD r [], fun r => f6H.getD r [], fun r i => ([] : List (Nat × Nat)).contains (r, i)⟩
theorem f6C : compF Try.prog f6A 6 = some f6 := by kernel_rfl

/-- switchboard/switchboardlaw23.deliver -/
abbrev f7o0 : List (Nat × Pop) := [
  (0, ⟨(some 3), .box 34 267 (.tmp 0), none⟩),
  (1, ⟨(some 6), .alloc 34 [(.t (.i .i64 0)), .nl, (.t (.i .i64 0)), .nl, (.t (.i .i64 0)), .nl, (.t (.i .i64 0)), .nl, .nl, .nl, (.t (.i .i64 0)), (.t (.i .i64 0)), (.t (.i .i64 0)), (.t (.i .i64 0)), (.t (.i .i64 0)), (.t (.i .i64 0)), (.t (.i .i64 0)), (.t (.i .i64 0)), (.t (.i .i64 0)), (.t (.i .i64 0)), (.t (.i .i64 0)), (.t (.i .i64 0)), (.t (.i .i64 0)), (.t (.i .i64 0)), (.t (.i .i64 0)), (.t (.i .i64 0)), (.t (.i .i64 0)), (.t (.i .i64 0)), (.t (.i .i64 0)), (.t (.i .i64 0)), (.t (.i .i64 0)), (.t (.i .i64 0)), (.t (.i .i64 0)), (.t (.i .i64 0)), (.t (.i .i64 0)), (.t (.i .i64 0)), (.t (.i .i64 0)), (.t (.i .i64 0)), (.t (.i .i64 0)), (.t (.i .i64 0)), (.t (.i .i64 0)), (.t (.i .i64 0)), (.t (.i .i64 0)), (.t (.i .i64 0)), (.t (.i .i64 0)), (.t (.i .i64 0)), (.t (.i .i64 0)), (.t (.i .i64 0)), (.t (.i .i64 0)), (.t (.i .i64 0)), (.t (.i .i64 0)), (.t (.i .i64 0)), (.t (.i .i64 0)), (.t (.i .i64 0)), (.t (.i .i64 0)), (.t (.i .i64 0)), (.t (.i .i64 0)), (.t (.i .i64 0)), (.t (.i .i64 0)), (.t (.i .i64 0)), (.t (.i .i64 0)), (.t (.i .i64 0)), (.t (.i .i64 0)), (.t (.i .i64 0)), (.t (.i .i64 0)), (.t (.i .i64 0)), (.t (.i .i64 0)), (.t (.i .i64 0)), (.t (.i .i64 0)), (.t (.i .i64 0)), (.t (.i .i64 0)), (.t (.i .i64 0)), (.t (.i .i64 0)), (.t (.i .i64 0)), (.t (.i .i64 0)), (.t (.i .i64 0)), (.t (.i .i64 0)), (.t (.i .i64 0)), (.t (.i .i64 0)), (.t (.i .i64 0)), (.t (.i .i64 0)), (.t (.i .i64 0)), (.t (.i .i64 0)), (.t (.i .i64 0)), (.t (.i .i64 0)), (.t (.i .i64 0)), (.t (.i .i64 0)), (.t (.i .i64 0)), (.t (.i .i64 0)), (.t (.i .i64 0)), (.t (.i .i64 0)), (.t (.i .i64 0)), (.t (.i .i64 0)), (.t (.i .i64 0)), (.t (.i .i64 0)), (.t (.i .i64 0)), (.t (.i .i64 0)), (.t (.i .i64 0)), (.t (.i .i64 0)), (.t (.i .i64 0)), (.t (.i .i64 0)), (.t (.i .i64 0)), (.t (.i .i64 0)), (.t (.i .i64 0)), (.t (.i .i64 0)), (.t (.i .i64 0)), (.t (.i .i64 0)), (.t (.i .i64 0)), (.t (.i .i64 0)), (.t (.i .i64 0)), (.t (.i .i64 0)), (.t (.i .i64 0)), (.t (.i .i64 0)), (.t (.i .i64 0)), (.t (.i .i64 0)), (.t (.i .i64 0)), (.t (.i .i64 0)), (.t (.i .i64 0)), (.t (.i .i64 0)), (.t (.i .i64 0)), (.t (.i .i64 0)), (.t (.i .i64 0)), (.t (.i .i64 0)), (.t (.i .i64 0)), (.t (.i .i64 0)), (.t (.i .i64 0)), (.t (.i .i64 0)), (.t (.i .i64 0)), (.t (.i .i64 0)), (.t (.i .i64 0)), (.t (.i .i64 0)), (.t (.i .i64 0)), (.t (.i .i64 0)), (.t (.i .i64 0)), (.t (.i .i64 0)), (.t (.i .i64 0)), (.t (.i .i64 0)), (.t (.i .i64 0)), (.t (.i .i64 0)), (.t (.i .i64 0)), (.t (.i .i64 0)), (.t (.i .i64 0)), (.t (.i .i64 0)), (.t (.i .i64 0)), (.t (.i .i64 0)), (.t (.i .i64 0)), (.t (.i .i64 0)), (.t (.i .i64 0)), (.t (.i .i64 0)), (.t (.i .i64 0)), (.t (.i .i64 0)), (.t (.i .i64 0)), (.t (.i .i64 0)), (.t (.i .i64 0)), (.t (.i .i64 0)), (.t (.i .i64 0)), (.t (.i .i64 0)), (.t (.i .i64 0)), (.t (.i .i64 0)), (.t (.i .i64 0)), (.t (.i .i64 0)), (.t (.i .i64 0)), (.t (.i .i64 0)), (.t (.i .i64 0)), (.t (.i .i64 0)), (.t (.i .i64 0)), (.t (.i .i64 0)), (.t (.i .i64 0)), (.t (.i .i64 0)), (.t (.i .i64 0)), (.t (.i .i64 0)), (.t (.i .i64 0)), (.t (.i .i64 0)), (.t (.i .i64 0)), (.t (.i .i64 0)), (.t (.i .i64 0)), (.t (.i .i64 0)), (.t (.i .i64 0)), (.t (.i .i64 0)), (.t (.i .i64 0)), (.t (.i .i64 0)), (.t (.i .i64 0)), (.t (.i .i64 0)), (.t (.i .i64 0)), (.t (.i .i64 0)), (.t (.i .i64 0)), (.t (.i .i64 0)), (.t (.i .i64 0)), (.t (.i .i64 0)), (.t (.i .i64 0)), (.t (.i .i64 0)), (.t (.i .i64 0)), (.t (.i .i64 0)), (.t (.i .i64 0)), (.t (.i .i64 0)), (.t (.i .i64 0)), (.t (.i .i64 0)), (.t (.i .i64 0)), (.t (.i .i64 0)), (.t (.i .i64 0)), (.t (.i .i64 0)), (.t (.i .i64 0)), (.t (.i .i64 0)), (.t (.i .i64 0)), (.t (.i .i64 0)), (.t (.i .i64 0)), (.t (.i .i64 0)), (.t (.i .i64 0)), (.t (.i .i64 0)), (.t (.i .i64 0)), (.t (.i .i64 0)), (.t (.i .i64 0)), (.t (.i .i64 0)), (.t (.i .i64 0)), (.t (.i .i64 0)), (.t (.i .i64 0)), (.t (.i .i64 0)), (.t (.i .i64 0)), (.t (.i .i64 0)), (.t (.i .i64 0)), (.t (.i .i64 0)), (.t (.i .i64 0)), (.t (.i .i64 0)), (.t (.i .i64 0)), (.t (.i .i64 0)), (.t (.i .i64 0)), (.t (.i .i64 0)), (.t (.i .i64 0)), (.t (.i .i64 0)), (.t (.i .i64 0)), (.t (.i .i64 0)), (.t (.i .i64 0)), (.t (.i .i64 0)), (.t (.i .i64 0)), (.t (.i .i64 0)), (.t (.i .i64 0)), (.t (.i .i64 0)), (.t (.i .i64 0)), (.t (.i .i64 0)), (.t (.i .i64 0)), (.t (.i .i64 0)), (.t (.i .i64 0)), (.t (.i .i64 0)), (.t (.i .i64 0)), (.t (.i .i64 0)), (.t (.i .i64 0)), (.t (.i .i64 0)), (.t (.i .i64 0)), (.t (.i .i64 0)), (.t (.i .i64 0)), (.t (.i .i64 0)), (.t (.i .i64 0)), (.t (.i .i64 0)), (.t (.i .i64 0)), (.t (.i .i64 0)), (.t (.i .i64 0)), (.t (.i .i64 0)), (.t (.i .i64 0)), (.t (.i .i64 0)), (.t (.i .i64 0)), (.t (.i .i64 0)), (.t (.i .i64 0)), (.t (.i .i64 0)), (.t (.i .i64 0)), (.t (.i .i64 0)), (.t (.i .i64 0)), (.t (.i .i64 0))], none⟩)]
abbrev f7r0 : Pc := .reg f7o0 [1, 2, 3, 6] []
abbrev f7o1 : List (Nat × Pop) := [
  (0, ⟨(some 12), .fad 8 (.tmp 3), none⟩),
  (1, ⟨(some 13), .load false 1 (.tmp 12), none⟩),
  (2, ⟨(some 14), .lenL (.tmp 13), none⟩),
  (3, ⟨(some 15), .bin .eql (.tmp 14) (.c (.t (.i .i64 0))), none⟩)]
abbrev f7r1 : Pc := .reg f7o1 [1, 2, 3, 6, 15] []
abbrev f7o2 : List (Nat × Pop) := [
  (0, ⟨(some 16), .load true 267 (.tmp 3), none⟩),
  (1, ⟨none, .store 267 (.tmp 6) (.tmp 16), none⟩)]
abbrev f7r2 : Pc := .reg f7o2 [6] [3]
abbrev f7o3 : List (Nat × Pop) := [
  (0, ⟨(some 17), .mv (.tmp 1), none⟩),
  (1, ⟨(some 18), .fad 8 (.tmp 3), none⟩),
  (2, ⟨(some 19), .load false 1 (.tmp 18), none⟩),
  (3, ⟨(some 20), .lenL (.tmp 19), none⟩),
  (4, ⟨(some 21), .bin .rem (.tmp 17) (.tmp 20), none⟩),
  (5, ⟨(some 1), .mv (.tmp 21), none⟩)]
abbrev f7r3 : Pc := .reg f7o3 [1, 2, 3, 6] []
abbrev f7o4 : List (Nat × Pop) := [
  (0, ⟨(some 23), .fad 4 (.tmp 3), none⟩),
  (1, ⟨(some 24), .load true 4 (.tmp 23), none⟩),
  (2, ⟨(some 25), .fad 8 (.tmp 3), none⟩),
  (3, ⟨(some 26), .load false 1 (.tmp 25), none⟩),
  (4, ⟨(some 27), .mv (.tmp 1), none⟩),
  (5, ⟨(some 28), .ixS 1 (.tmp 26) (.tmp 27), none⟩),
  (6, ⟨(some 29), .load false 1 (.tmp 28), none⟩),
  (7, ⟨(some 30), .callq 12 [(.tmp 24), (.tmp 29)], none⟩),
  (8, ⟨(some 22), .mv (.tmp 30), none⟩),
  (9, ⟨(some 31), .ext 0 (.tmp 22), none⟩),
  (10, ⟨(some 32), .ext 1 (.tmp 22), none⟩),
  (11, ⟨(some 33), .ext 2 (.tmp 22), none⟩),
  (12, ⟨(some 34), .ext 3 (.tmp 22), none⟩),
  (13, ⟨(some 35), .ext 4 (.tmp 22), none⟩),
  (14, ⟨(some 7), .alloc 30 [(.t (.i .i64 0)), .nl, (.t (.i .i64 0)), .nl], none⟩),
  (15, ⟨none, .store 4 (.tmp 7) (.tmp 31), none⟩),
  (16, ⟨(some 8), .mv (.tmp 32), none⟩),
  (17, ⟨(some 9), .mv (.tmp 33), none⟩),
  (18, ⟨(some 10), .mv (.tmp 34), none⟩),
  (19, ⟨(some 11), .mv (.tmp 35), none⟩)]
abbrev f7r4 : Pc := .reg f7o4 [1, 2, 3, 6, 7, 8, 9, 10] []
abbrev f7o5 : List (Nat × Pop) := [
  (0, ⟨(some 36), .load true 4 (.tmp 7), none⟩),
  (1, ⟨(some 37), .fad 4 (.tmp 3), none⟩),
  (2, ⟨none, .store 4 (.tmp 37) (.tmp 36), none⟩)]
abbrev f7r5 : Pc := .reg f7o5 [1, 2, 3, 6, 8, 9, 10] [7]
abbrev f7o6 : List (Nat × Pop) := [
  (0, ⟨(some 38), .mv (.tmp 9), none⟩),
  (1, ⟨(some 39), .mv (.tmp 38), none⟩),
  (2, ⟨(some 40), .mv (.tmp 8), (some (39, true))⟩),
  (3, ⟨(some 41), .lenS (.tmp 40), (some (39, true))⟩),
  (4, ⟨(some 42), .bin .eql (.tmp 41) (.c (.t (.i .i64 2))), (some (39, true))⟩),
  (5, ⟨(some 43), .pick (.tmp 39) (.tmp 42) (.c (.t (.b false))), none⟩)]
abbrev f7r6 : Pc := .reg f7o6 [1, 2, 3, 6, 8, 10, 43] []
abbrev f7o7 : List (Nat × Pop) := [
  (0, ⟨(some 44), .mv (.tmp 8), none⟩),
  (1, ⟨(some 45), .ixs (.tmp 44) (.c (.t (.i .i64 1))), none⟩),
  (2, ⟨(some 46), .fad 10 (.tmp 3), none⟩),
  (3, ⟨(some 47), .ixA 256 1 (.tmp 46) (.tmp 45), none⟩),
  (4, ⟨(some 48), .load false 1 (.tmp 47), none⟩),
  (5, ⟨(some 49), .bin .add (.tmp 48) (.c (.t (.i .i64 1))), none⟩),
  (6, ⟨(some 50), .fad 10 (.tmp 3), none⟩),
  (7, ⟨(some 51), .ixA 256 1 (.tmp 50) (.tmp 45), none⟩),
  (8, ⟨none, .store 1 (.tmp 51) (.tmp 49), none⟩)]
abbrev f7r7 : Pc := .reg f7o7 [1, 2, 3, 6, 10] []
abbrev f7o8 : List (Nat × Pop) := [
  (0, ⟨(some 52), .fad 9 (.tmp 3), none⟩),
  (1, ⟨(some 53), .load false 1 (.tmp 52), none⟩),
  (2, ⟨(some 54), .lenL (.tmp 53), none⟩),
  (3, ⟨(some 55), .bin .lss (.tmp 54) (.c (.t (.i .i64 300))), none⟩)]
abbrev f7r8 : Pc := .reg f7o8 [1, 2, 3, 6, 10, 55] []
abbrev f7o9 : List (Nat × Pop) := [
  (0, ⟨(some 56), .bslO 9 1 [], none⟩),
  (1, ⟨(some 57), .fad 9 (.tmp 3), none⟩),
  (2, ⟨(some 58), .load false 1 (.tmp 57), none⟩),
  (3, ⟨(some 59), .app 9 1 16 (.tmp 56) (.tmp 58), none⟩),
  (4, ⟨(some 60), .mv (.tmp 10), none⟩),
  (5, ⟨(some 61), .bslT 1 [(.tmp 60)], none⟩),
  (6, ⟨(some 62), .app 9 1 16 (.tmp 59) (.tmp 61), none⟩),
  (7, ⟨(some 63), .fad 9 (.tmp 3), none⟩),
  (8, ⟨none, .store 1 (.tmp 63) (.tmp 62), none⟩)]
abbrev f7r9 : Pc := .reg f7o9 [1, 2, 3, 6] []
abbrev f7o10 : List (Nat × Pop) := [
  (0, ⟨(some 64), .mv (.tmp 2), none⟩),
  (1, ⟨(some 65), .un .not (.tmp 64), none⟩)]
abbrev f7r10 : Pc := .reg f7o10 [1, 3, 6, 65] []
abbrev f7o11 : List (Nat × Pop) := [
  (0, ⟨(some 66), .fad 8 (.tmp 3), none⟩),
  (1, ⟨(some 67), .load false 1 (.tmp 66), none⟩),
  (2, ⟨(some 68), .mv (.tmp 1), none⟩),
  (3, ⟨(some 69), .call 11 [(.tmp 67), (.tmp 68)], none⟩),
  (4, ⟨(some 70), .fad 8 (.tmp 3), none⟩),
  (5, ⟨none, .store 1 (.tmp 70) (.tmp 69), none⟩)]
abbrev f7r11 : Pc := .reg f7o11 [3, 6] []
abbrev f7o12 : List (Nat × Pop) := [
  (0, ⟨(some 71), .load true 267 (.tmp 3), none⟩),
  (1, ⟨none, .store 267 (.tmp 6) (.tmp 71), none⟩)]
abbrev f7r12 : Pc := .reg f7o12 [6] [3]
abbrev f7b : Pc := (.seq f7r0 (.seq (.seq f7r1 (.cond (.tmp 15) (.seq f7r2 .ret) .skip)) (.seq f7r3 (.seq f7r4 (.seq f7r5 (.seq (.seq f7r6 (.cond (.tmp 43) f7r7 .skip)) (.seq (.seq f7r8 (.cond (.tmp 55) f7r9 .skip)) (.seq (.seq f7r10 (.cond (.tmp 65) f7r11 .skip)) (.seq f7r12 .ret)))))))))
abbrev f7 : Pfn := ⟨3, 72, [.cell 6 true 267], f7b⟩
def f7K : Array (List Nat) := #[[1, 2, 3, 6], [1, 2, 3, 6, 15], [6], [1, 2, 3, 6], [1, 2, 3, 6, 7, 8, 9, 10], [1, 2, 3, 6, 8, 9, 10], [1, 2, 3, 6, 8, 10, 43], [1, 2, 3, 6, 10], [1, 2, 3, 6, 10, 55], [1, 2, 3, 6], [1, 3, 6, 65], [3, 6], [6]]
def f7H : Array (List Nat) := #[[], [], [3], [], [], [7], [], [], [], [], [], [], [3]]
def f7A : Ann := ⟨fun r => f7K.getD r [], fun r => f7H.getD r [], fun r i => ([(9, 0)] : List (Nat × Nat)).contains (r, i)⟩
theorem f7C : compF Try.prog f7A 7 = some f7 := by kernel_rfl

/-- switchboard/switchboardlaw23.awake -/
abbrev f8o0 : List (Nat × Pop) := [
  (0, ⟨(some 0), .mv (.c (.t (.b false))), none⟩)]
abbrev f8r0 : Pc := .reg f8o0 [] []
abbrev f8o1 : List (Nat × Pop) := [
  (0, ⟨(some 19), .build [(.t (.i .i64 0)), .nl, (.t (.i .i64 0)), .nl] [], none⟩),
  (1, ⟨(some 20), .call 9 [(.tmp 19), (.c (.t (.s [97])))], none⟩),
  (2, ⟨(some 18), .mv (.tmp 20), none⟩),
  (3, ⟨(some 21), .ext 0 (.tmp 18), none⟩),
  (4, ⟨(some 22), .ext 1 (.tmp 18), none⟩),
  (5, ⟨(some 23), .ext 2 (.tmp 18), none⟩),
  (6, ⟨(some 1), .alloc 30 [(.t (.i .i64 0)), .nl, (.t (.i .i64 0)), .nl], none⟩),
  (7, ⟨none, .store 4 (.tmp 1) (.tmp 21), none⟩),
  (8, ⟨(some 2), .mv (.tmp 22), none⟩),
  (9, ⟨(some 3), .mv (.tmp 23), none⟩)]
abbrev f8r1 : Pc := .reg f8o1 [1, 2, 3] []
abbrev f8o2 : List (Nat × Pop) := [
  (0, ⟨(some 25), .build [(.t (.i .i64 0)), .nl, (.t (.i .i64 0)), .nl] [], none⟩),
  (1, ⟨(some 26), .mv (.tmp 2), none⟩),
  (2, ⟨(some 27), .call 12 [(.tmp 25), (.tmp 26)], none⟩),
  (3, ⟨(some 24), .mv (.tmp 27), none⟩),
  (4, ⟨(some 28), .ext 0 (.tmp 24), none⟩),
  (5, ⟨(some 29), .ext 1 (.tmp 24), none⟩),
  (6, ⟨(some 30), .ext 2 (.tmp 24), none⟩),
  (7, ⟨(some 31), .ext 3 (.tmp 24), none⟩),
  (8, ⟨(some 32), .ext 4 (.tmp 24), none⟩),
  (9, ⟨(some 4), .alloc 30 [(.t (.i .i64 0)), .nl, (.t (.i .i64 0)), .nl], none⟩),
  (10, ⟨none, .store 4 (.tmp 4) (.tmp 28), none⟩),
  (11, ⟨(some 5), .mv (.tmp 29), none⟩),
  (12, ⟨(some 6), .mv (.tmp 30), none⟩),
  (13, ⟨(some 7), .mv (.tmp 31), none⟩),
  (14, ⟨(some 8), .mv (.tmp 32), none⟩)]
abbrev f8r2 : Pc := .reg f8o2 [1, 2, 3, 4, 5, 6, 7, 8] []
abbrev f8o3 : List (Nat × Pop) := [
  (0, ⟨(some 34), .load true 4 (.tmp 4), none⟩),
  (1, ⟨(some 35), .mv (.tmp 2), none⟩),
  (2, ⟨(some 36), .call 12 [(.tmp 34), (.tmp 35)], none⟩),
  (3, ⟨(some 33), .mv (.tmp 36), none⟩),
  (4, ⟨(some 37), .ext 0 (.tmp 33), none⟩),
  (5, ⟨(some 38), .ext 1 (.tmp 33), none⟩),
  (6, ⟨(some 39), .ext 2 (.tmp 33), none⟩),
  (7, ⟨(some 40), .ext 3 (.tmp 33), none⟩),
  (8, ⟨(some 41), .ext 4 (.tmp 33), none⟩),
  (9, ⟨(some 9), .alloc 30 [(.t (.i .i64 0)), .nl, (.t (.i .i64 0)), .nl], none⟩),
  (10, ⟨none, .store 4 (.tmp 9) (.tmp 37), none⟩),
  (11, ⟨(some 10), .mv (.tmp 38), none⟩),
  (12, ⟨(some 11), .mv (.tmp 39), none⟩),
  (13, ⟨(some 12), .mv (.tmp 40), none⟩),
  (14, ⟨(some 13), .mv (.tmp 41), none⟩)]
abbrev f8r3 : Pc := .reg f8o3 [1, 3, 5, 6, 7, 8, 11] [4, 9]
abbrev f8o4 : List (Nat × Pop) := [
  (0, ⟨(some 43), .load true 4 (.tmp 1), none⟩),
  (1, ⟨(some 44), .mv (.tmp 7), none⟩),
  (2, ⟨(some 45), .call 12 [(.tmp 43), (.tmp 44)], none⟩),
  (3, ⟨(some 42), .mv (.tmp 45), none⟩),
  (4, ⟨(some 46), .ext 0 (.tmp 42), none⟩),
  (5, ⟨(some 47), .ext 1 (.tmp 42), none⟩),
  (6, ⟨(some 48), .ext 2 (.tmp 42), none⟩),
  (7, ⟨(some 49), .ext 3 (.tmp 42), none⟩),
  (8, ⟨(some 50), .ext 4 (.tmp 42), none⟩),
  (9, ⟨none, .store 4 (.tmp 1) (.tmp 46), none⟩),
  (10, ⟨(some 14), .mv (.tmp 47), none⟩),
  (11, ⟨(some 15), .mv (.tmp 48), none⟩),
  (12, ⟨(some 16), .mv (.tmp 49), none⟩),
  (13, ⟨(some 17), .mv (.tmp 50), none⟩)]
abbrev f8r4 : Pc := .reg f8o4 [1, 3, 5, 6, 8, 11, 17] []
abbrev f8o5 : List (Nat × Pop) := [
  (0, ⟨(some 51), .mv (.tmp 3), none⟩),
  (1, ⟨(some 52), .bin .eql (.tmp 51) (.c (.t (.i .i64 0))), none⟩),
  (2, ⟨(some 53), .mv (.tmp 52), none⟩),
  (3, ⟨(some 54), .mv (.tmp 5), (some (53, true))⟩),
  (4, ⟨(some 55), .bin .eql (.tmp 54) (.c (.t (.s [97]))), (some (53, true))⟩),
  (5, ⟨(some 56), .pick (.tmp 53) (.tmp 55) (.c (.t (.b false))), none⟩),
  (6, ⟨(some 57), .mv (.tmp 56), none⟩),
  (7, ⟨(some 58), .mv (.tmp 6), (some (57, true))⟩),
  (8, ⟨(some 59), .pick (.tmp 57) (.tmp 58) (.c (.t (.b false))), none⟩),
  (9, ⟨(some 60), .mv (.tmp 59), none⟩),
  (10, ⟨(some 61), .mv (.tmp 8), (some (60, true))⟩),
  (11, ⟨(some 62), .bin .eql (.tmp 61) (.c (.t (.i .i64 0))), (some (60, true))⟩),
  (12, ⟨(some 63), .pick (.tmp 60) (.tmp 62) (.c (.t (.b false))), none⟩),
  (13, ⟨(some 64), .mv (.tmp 63), none⟩),
  (14, ⟨(some 65), .mv (.tmp 11), (some (64, true))⟩),
  (15, ⟨(some 66), .un .not (.tmp 65), (some (64, true))⟩),
  (16, ⟨(some 67), .pick (.tmp 64) (.tmp 66) (.c (.t (.b false))), none⟩),
  (17, ⟨(some 68), .mv (.tmp 67), none⟩),
  (18, ⟨(some 69), .mv (.tmp 17), (some (68, true))⟩),
  (19, ⟨(some 70), .bin .eql (.tmp 69) (.c (.t (.i .i64 0))), (some (68, true))⟩),
  (20, ⟨(some 71), .pick (.tmp 68) (.tmp 70) (.c (.t (.b false))), none⟩),
  (21, ⟨(some 72), .mv (.tmp 71), none⟩),
  (22, ⟨(some 73), .fad 0 (.tmp 1), (some (72, true))⟩),
  (23, ⟨(some 74), .fad 1 (.tmp 73), (some (72, true))⟩),
  (24, ⟨(some 75), .load false 1 (.tmp 74), (some (72, true))⟩),
  (25, ⟨(some 76), .lenL (.tmp 75), (some (72, true))⟩),
  (26, ⟨(some 77), .bin .eql (.tmp 76) (.c (.t (.i .i64 0))), (some (72, true))⟩),
  (27, ⟨(some 78), .pick (.tmp 72) (.tmp 77) (.c (.t (.b false))), none⟩),
  (28, ⟨(some 79), .mv (.tmp 78), none⟩),
  (29, ⟨(some 80), .load true 4 (.tmp 1), (some (79, true))⟩),
  (30, ⟨(some 81), .call 6 [(.tmp 80)], (some (79, true))⟩),
  (31, ⟨(some 82), .lenL (.tmp 81), (some (79, true))⟩),
  (32, ⟨(some 83), .bin .eql (.tmp 82) (.c (.t (.i .i64 0))), (some (79, true))⟩),
  (33, ⟨(some 84), .pick (.tmp 79) (.tmp 83) (.c (.t (.b false))), none⟩),
  (34, ⟨(some 0), .mv (.tmp 84), none⟩)]
abbrev f8r5 : Pc := .reg f8o5 [0] [1]
abbrev f8b : Pc := (.seq f8r0 (.seq f8r1 (.seq f8r2 (.seq f8r3 (.seq f8r4 (.seq f8r5 .ret))))))
abbrev f8 : Pfn := ⟨0, 85, [.tmp 0], f8b⟩
def f8K : Array (List Nat) := #[[], [1, 2, 3], [1, 2, 3, 4, 5, 6, 7, 8], [1, 3, 5, 6, 7, 8, 11], [1, 3, 5, 6, 8, 11, 17], [0]]
def f8H : Array (List Nat) := #[[], [], [], [4, 9], [], [1]]
def f8A : Ann := ⟨fun r => f8K.getD r [], fun r => f8H.getD r [], fun r i => ([] : List (Nat × Nat)).contains (r, i)⟩
theorem f8C : compF Try.prog f8A 8 = some f8 := by kernel_rfl

/-- switchboard/port.Send -/
abbrev f9o0 : List (Nat × Pop) := [
  (0, ⟨(some 2), .box 30 4 (.tmp 0), none⟩),
  (1, ⟨(some 4), .alloc 30 [(.t (.i .i64 0)), .nl, (.t (.i .i64 0)), .nl], none⟩),
  (2, ⟨(some 5), .mv (.c (.t (.s []))), none⟩),
  (3, ⟨(some 6), .mv (.c (.t (.i .i64 0))), none⟩)]
abbrev f9r0 : Pc := .reg f9o0 [1, 2, 4] []
abbrev f9o1 : List (Nat × Pop) := [
  (0, ⟨(some 14), .fad 0 (.tmp 2), none⟩),
  (1, ⟨(some 15), .load true 2 (.tmp 14), none⟩),
  (2, ⟨(some 16), .mv (.tmp 1), none⟩),
  (3, ⟨(some 17), .call 14 [(.tmp 15), (.tmp 16)], none⟩),
  (4, ⟨(some 13), .mv (.tmp 17), none⟩),
  (5, ⟨(some 18), .ext 0 (.tmp 13), none⟩),
  (6, ⟨(some 19), .ext 1 (.tmp 13), none⟩),
  (7, ⟨(some 20), .ext 2 (.tmp 13), none⟩),
  (8, ⟨(some 7), .alloc 25 [(.t (.i .i64 0)), .nl], none⟩),
  (9, ⟨none, .store 2 (.tmp 7) (.tmp 18), none⟩),
  (10, ⟨(some 8), .mv (.tmp 19), none⟩),
  (11, ⟨(some 9), .mv (.tmp 20), none⟩)]
abbrev f9r1 : Pc := .reg f9o1 [1, 2, 4, 7, 8, 9] []
abbrev f9o2 : List (Nat × Pop) := [
  (0, ⟨(some 21), .mv (.tmp 9), none⟩),
  (1, ⟨(some 22), .bin .eql (.tmp 21) (.c (.t (.i .i64 1))), none⟩)]
abbrev f9r2 : Pc := .reg f9o2 [1, 2, 4, 7, 8, 9, 22] []
abbrev f9o3 : List (Nat × Pop) := [
  (0, ⟨(some 23), .load true 4 (.tmp 2), none⟩),
  (1, ⟨(some 24), .mv (.tmp 9), none⟩),
  (2, ⟨none, .store 4 (.tmp 4) (.tmp 23), none⟩),
  (3, ⟨(some 5), .mv (.c (.t (.s []))), none⟩),
  (4, ⟨(some 6), .mv (.tmp 24), none⟩)]
abbrev f9r3 : Pc := .reg f9o3 [4, 5, 6] [2, 7]
abbrev f9o4 : List (Nat × Pop) := [
  (0, ⟨(some 25), .fad 0 (.tmp 2), none⟩),
  (1, ⟨(some 26), .fad 1 (.tmp 25), none⟩),
  (2, ⟨(some 27), .load false 1 (.tmp 26), none⟩),
  (3, ⟨(some 10), .mv (.tmp 27), none⟩)]
abbrev f9r4 : Pc := .reg f9o4 [1, 2, 4, 7, 8, 9, 10] []
abbrev f9o5 : List (Nat × Pop) := [
  (0, ⟨(some 28), .mv (.tmp 10), none⟩),
  (1, ⟨(some 29), .lenL (.tmp 28), none⟩),
  (2, ⟨(some 30), .bin .gtr (.tmp 29) (.c (.t (.i .i64 0))), none⟩),
  (3, ⟨(some 31), .mv (.tmp 30), none⟩),
  (4, ⟨(some 32), .fad 0 (.tmp 2), (some (31, true))⟩),
  (5, ⟨(some 33), .fad 0 (.tmp 32), (some (31, true))⟩),
  (6, ⟨(some 34), .load false 1 (.tmp 33), (some (31, true))⟩),
  (7, ⟨(some 35), .mv (.tmp 10), (some (31, true))⟩),
  (8, ⟨(some 36), .ixS 2 (.tmp 35) (.c (.t (.i .i64 0))), (some (31, true))⟩),
  (9, ⟨(some 37), .fad 0 (.tmp 36), (some (31, true))⟩),
  (10, ⟨(some 38), .load false 1 (.tmp 37), (some (31, true))⟩),
  (11, ⟨(some 39), .bin .sub (.tmp 34) (.tmp 38), (some (31, true))⟩),
  (12, ⟨(some 40), .bin .geq (.tmp 39) (.c (.t (.i .i64 32))), (some (31, true))⟩),
  (13, ⟨(some 41), .pick (.tmp 31) (.tmp 40) (.c (.t (.b false))), none⟩)]
abbrev f9r5 : Pc := .reg f9o5 [1, 2, 4, 7, 8, 9, 41] []
abbrev f9o6 : List (Nat × Pop) := [
  (0, ⟨(some 42), .load true 4 (.tmp 2), none⟩),
  (1, ⟨none, .store 4 (.tmp 4) (.tmp 42), none⟩),
  (2, ⟨(some 5), .mv (.c (.t (.s []))), none⟩),
  (3, ⟨(some 6), .mv (.c (.t (.i .i64 8))), none⟩)]
abbrev f9r6 : Pc := .reg f9o6 [4, 5, 6] [2, 7]
abbrev f9o7 : List (Nat × Pop) := [
  (0, ⟨(some 43), .mv (.tmp 9), none⟩),
  (1, ⟨(some 44), .bin .neq (.tmp 43) (.c (.t (.i .i64 0))), none⟩)]
abbrev f9r7 : Pc := .reg f9o7 [1, 2, 4, 7, 8, 9, 44] []
abbrev f9o8 : List (Nat × Pop) := [
  (0, ⟨(some 45), .load true 4 (.tmp 2), none⟩),
  (1, ⟨(some 46), .mv (.tmp 9), none⟩),
  (2, ⟨none, .store 4 (.tmp 4) (.tmp 45), none⟩),
  (3, ⟨(some 5), .mv (.c (.t (.s []))), none⟩),
  (4, ⟨(some 6), .mv (.tmp 46), none⟩)]
abbrev f9r8 : Pc := .reg f9o8 [4, 5, 6] [2, 7]
abbrev f9o9 : List (Nat × Pop) := [
  (0, ⟨(some 47), .load true 2 (.tmp 7), none⟩),
  (1, ⟨(some 48), .fad 0 (.tmp 2), none⟩),
  (2, ⟨none, .store 2 (.tmp 48) (.tmp 47), none⟩)]
abbrev f9r9 : Pc := .reg f9o9 [1, 2, 4, 8] [7]
abbrev f9o10 : List (Nat × Pop) := [
  (0, ⟨(some 50), .mv (.tmp 8), none⟩),
  (1, ⟨(some 51), .mv (.tmp 1), none⟩),
  (2, ⟨(some 52), .call 13 [(.c (.t (.i .u8 68))), (.tmp 50), (.tmp 51)], none⟩),
  (3, ⟨(some 49), .mv (.tmp 52), none⟩),
  (4, ⟨(some 53), .ext 0 (.tmp 49), none⟩),
  (5, ⟨(some 54), .ext 1 (.tmp 49), none⟩),
  (6, ⟨(some 11), .mv (.tmp 53), none⟩),
  (7, ⟨(some 12), .mv (.tmp 54), none⟩)]
abbrev f9r10 : Pc := .reg f9o10 [2, 4, 11] []
abbrev f9o11 : List (Nat × Pop) := [
  (0, ⟨(some 55), .load true 4 (.tmp 2), none⟩),
  (1, ⟨(some 56), .mv (.tmp 11), none⟩),
  (2, ⟨none, .store 4 (.tmp 4) (.tmp 55), none⟩),
  (3, ⟨(some 5), .mv (.tmp 56), none⟩),
  (4, ⟨(some 6), .mv (.c (.t (.i .i64 0))), none⟩)]
abbrev f9r11 : Pc := .reg f9o11 [4, 5, 6] [2]
abbrev f9b : Pc := (.seq f9r0 (.seq f9r1 (.seq (.seq f9r2 (.cond (.tmp 22) (.seq f9r3 .ret) .skip)) (.seq (.seq f9r4 (.seq f9r5 (.cond (.tmp 41) (.seq f9r6 .ret) .skip))) (.seq (.seq f9r7 (.cond (.tmp 44) (.seq f9r8 .ret) .skip)) (.seq f9r9 (.seq f9r10 (.seq f9r11 .ret))))))))
abbrev f9 : Pfn := ⟨2, 57, [.cell 4 true 4, .tmp 5, .tmp 6], f9b⟩
def f9K : Array (List Nat) := #[[1, 2, 4], [1, 2, 4, 7, 8, 9], [1, 2, 4, 7, 8, 9, 22], [4, 5, 6], [1, 2, 4, 7, 8, 9, 10], [1, 2, 4, 7, 8, 9, 41], [4, 5, 6], [1, 2, 4, 7, 8, 9, 44], [4, 5, 6], [1, 2, 4, 8], [2, 4, 11], [4, 5, 6]]
def f9H : Array (List Nat) := #[[], [], [], [2, 7], [], [], [2, 7], [], [2, 7], [7], [], [2]]
def f9A : Ann := ⟨fun r => f9K.getD r [], fun r => f9H.getD r [], fun r i => ([] : List (Nat × Nat)).contains (r, i)⟩
theorem f9C : compF Try.prog f9A 9 = some f9 := by kernel_rfl

/-- switchboard/switchboardlaw23.text -/
abbrev f10o0 : List (Nat × Pop) := [
  (0, ⟨(some 2), .mv (.c (.t (.s []))), none⟩)]
abbrev f10r0 : Pc := .reg f10o0 [0] []
abbrev f10o1 : List (Nat × Pop) := [
  (0, ⟨(some 3), .mv (.tmp 0), none⟩),
  (1, ⟨(some 4), .cvi .u8 (.tmp 3), none⟩),
  (2, ⟨(some 5), .bslT 1 [(.c (.t (.i .u8 116))), (.tmp 4)], none⟩),
  (3, ⟨(some 6), .cvbs (.tmp 5), none⟩),
  (4, ⟨(some 2), .mv (.tmp 6), none⟩)]
abbrev f10r1 : Pc := .reg f10o1 [2] []
abbrev f10b : Pc := (.seq f10r0 (.seq f10r1 .ret))
abbrev f10 : Pfn := ⟨1, 7, [.tmp 2], f10b⟩
def f10K : Array (List Nat) := #[[0], [2]]
def f10H : Array (List Nat) := #[[], []]
def f10A : Ann := ⟨fun r => f10K.getD r [], fun r => f10H.getD r [], fun r i => ([] : List (Nat × Nat)).contains (r, i)⟩
theorem f10C : compF Try.prog f10A 10 = some f10 := by kernel_rfl

/-- switchboard/switchboardref08.Without -/
abbrev f11o0 : List (Nat × Pop) := [
  (0, ⟨(some 4), .nilv 9 1, none⟩)]
abbrev f11r0 : Pc := .reg f11o0 [0, 1] [4, 5, 22]
abbrev f11o1 : List (Nat × Pop) := [
  (0, ⟨(some 5), .nilv 9 1, none⟩)]
abbrev f11r1 : Pc := .reg f11o1 [0, 1, 5] []
abbrev f11o2 : List (Nat × Pop) := [
  (0, ⟨(some 6), .mv (.c (.t (.i .i64 0))), none⟩)]
abbrev f11r2 : Pc := .reg f11o2 [0, 1, 5, 6] []
abbrev f11o3 : List (Nat × Pop) := [
  (0, ⟨(some 7), .mv (.tmp 6), none⟩),
  (1, ⟨(some 8), .mv (.tmp 0), none⟩),
  (2, ⟨(some 9), .lenL (.tmp 8), none⟩),
  (3, ⟨(some 10), .bin .lss (.tmp 7) (.tmp 9), none⟩)]
abbrev f11r3 : Pc := .reg f11o3 [0, 1, 5, 6, 10] []
abbrev f11o5 : List (Nat × Pop) := [
  (0, ⟨(some 13), .mv (.tmp 6), none⟩),
  (1, ⟨(some 14), .mv (.tmp 1), none⟩),
  (2, ⟨(some 15), .bin .neq (.tmp 13) (.tmp 14), none⟩)]
abbrev f11r5 : Pc := .reg f11o5 [0, 1, 5, 6, 15] []
abbrev f11o6 : List (Nat × Pop) := [
  (0, ⟨(some 16), .mv (.tmp 5), none⟩),
  (1, ⟨(some 17), .mv (.tmp 0), none⟩),
  (2, ⟨(some 18), .mv (.tmp 6), none⟩),
  (3, ⟨(some 19), .ixS 1 (.tmp 17) (.tmp 18), none⟩),
  (4, ⟨(some 20), .load false 1 (.tmp 19), none⟩),
  (5, ⟨(some 21), .bslT 1 [(.tmp 20)], none⟩),
  (6, ⟨(some 22), .app 9 1 16 (.tmp 16) (.tmp 21), none⟩),
  (7, ⟨(some 5), .mv (.tmp 22), none⟩)]
abbrev f11r6 : Pc := .reg f11o6 [0, 1, 5, 6] []
abbrev f11o4 : List (Nat × Pop) := [
  (0, ⟨(some 11), .mv (.tmp 6), none⟩),
  (1, ⟨(some 12), .bin .add (.tmp 11) (.c (.t (.i .i64 1))), none⟩),
  (2, ⟨(some 6), .mv (.tmp 12), none⟩)]
abbrev f11r4 : Pc := .reg f11o4 [0, 1, 5, 6] []
def f11l0 : Pc := (.seq (.seq f11r3 (.cond (.tmp 10) .skip (.exit 0))) (.seq (.block 1 (.seq f11r5 (.cond (.tmp 15) f11r6 .skip))) f11r4))
theorem f11l0e (C : Cfg) (s : St) : evL C f11l0 s = evL C (.seq (.seq f11r3 (.cond (.tmp 10) .skip (.exit 0))) (.seq (.block 1 (.seq f11r5 (.cond (.tmp 15) f11r6 .skip))) f11r4)) s := rfl
abbrev f11o7 : List (Nat × Pop) := [
  (0, ⟨(some 23), .mv (.tmp 5), none⟩),
  (1, ⟨(some 4), .mv (.tmp 23), none⟩)]
abbrev f11r7 : Pc := .reg f11o7 [4] []
abbrev f11b : Pc := (.seq f11r0 (.seq f11r1 (.seq (.seq f11r2 (.block 0 (.loop f11l0))) (.seq f11r7 .ret))))
abbrev f11 : Pfn := ⟨2, 24, [.tmp 4], f11b⟩
def f11K : Array (List Nat) := #[[0, 1], [0, 1, 5], [0, 1, 5, 6], [0, 1, 5, 6, 10], [0, 1, 5, 6], [0, 1, 5, 6, 15], [0, 1, 5, 6], [4]]
def f11H : Array (List Nat) := #[[4, 5, 22], [], [], [], [], [], [], []]
def f11A : Ann := ⟨fun r => f11K.getD r [], fun r => f11H.getD r [], fun r i => ([] : List (Nat × Nat)).contains (r, i)⟩
theorem f11C : compF Try.prog f11A 11 = some f11 := by kernel_rfl

/-- switchboard/port.Receive -/
abbrev f12o0 : List (Nat × Pop) := [
  (0, ⟨(some 2), .box 30 4 (.tmp 0), none⟩),
  (1, ⟨(some 4), .alloc 30 [(.t (.i .i64 0)), .nl, (.t (.i .i64 0)), .nl], none⟩),
  (2, ⟨(some 5), .mv (.c (.t (.s []))), none⟩),
  (3, ⟨(some 6), .mv (.c (.t (.b false))), none⟩),
  (4, ⟨(some 7), .mv (.c (.t (.s []))), none⟩),
  (5, ⟨(some 8), .mv (.c (.t (.i .i64 0))), none⟩)]
abbrev f12r0 : Pc := .reg f12o0 [1, 2, 4] []
abbrev f12o1 : List (Nat × Pop) := [
  (0, ⟨(some 18), .mv (.tmp 1), none⟩),
  (1, ⟨(some 19), .call 15 [(.tmp 18)], none⟩),
  (2, ⟨(some 17), .mv (.tmp 19), none⟩),
  (3, ⟨(some 20), .ext 0 (.tmp 17), none⟩),
  (4, ⟨(some 21), .ext 1 (.tmp 17), none⟩),
  (5, ⟨(some 22), .ext 2 (.tmp 17), none⟩),
  (6, ⟨(some 23), .ext 3 (.tmp 17), none⟩),
  (7, ⟨(some 9), .mv (.tmp 20), none⟩),
  (8, ⟨(some 10), .mv (.tmp 21), none⟩),
  (9, ⟨(some 11), .mv (.tmp 22), none⟩),
  (10, ⟨(some 12), .mv (.tmp 23), none⟩)]
abbrev f12r1 : Pc := .reg f12o1 [2, 4, 9, 10, 11, 12] []
abbrev f12o2 : List (Nat × Pop) := [
  (0, ⟨(some 24), .mv (.tmp 12), none⟩),
  (1, ⟨(some 25), .bin .neq (.tmp 24) (.c (.t (.i .i64 0))), none⟩)]
abbrev f12r2 : Pc := .reg f12o2 [2, 4, 9, 10, 11, 12, 25] []
abbrev f12o3 : List (Nat × Pop) := [
  (0, ⟨(some 26), .load true 4 (.tmp 2), none⟩),
  (1, ⟨(some 27), .mv (.tmp 12), none⟩),
  (2, ⟨none, .store 4 (.tmp 4) (.tmp 26), none⟩),
  (3, ⟨(some 5), .mv (.c (.t (.s []))), none⟩),
  (4, ⟨(some 6), .mv (.c (.t (.b false))), none⟩),
  (5, ⟨(some 7), .mv (.c (.t (.s []))), none⟩),
  (6, ⟨(some 8), .mv (.tmp 27), none⟩)]
abbrev f12r3 : Pc := .reg f12o3 [4, 5, 6, 7, 8] [2]
abbrev f12o4 : List (Nat × Pop) := [
  (0, ⟨(some 28), .mv (.tmp 9), none⟩),
  (1, ⟨(some 29), .bin .eql (.tmp 28) (.c (.t (.i .u8 65))), none⟩)]
abbrev f12r4 : Pc := .reg f12o4 [2, 4, 10, 11, 29] []
abbrev f12o5 : List (Nat × Pop) := [
  (0, ⟨(some 30), .fad 0 (.tmp 2), none⟩),
  (1, ⟨(some 31), .load true 2 (.tmp 30), none⟩),
  (2, ⟨(some 32), .mv (.tmp 10), none⟩),
  (3, ⟨(some 33), .call 16 [(.tmp 31), (.tmp 32)], none⟩),
  (4, ⟨(some 34), .fad 0 (.tmp 2), none⟩),
  (5, ⟨none, .store 2 (.tmp 34) (.tmp 33), none⟩)]
abbrev f12r5 : Pc := .reg f12o5 [2, 4] []
abbrev f12o6 : List (Nat × Pop) := [
  (0, ⟨(some 35), .load true 4 (.tmp 2), none⟩),
  (1, ⟨none, .store 4 (.tmp 4) (.tmp 35), none⟩),
  (2, ⟨(some 5), .mv (.c (.t (.s []))), none⟩),
  (3, ⟨(some 6), .mv (.c (.t (.b false))), none⟩),
  (4, ⟨(some 7), .mv (.c (.t (.s []))), none⟩),
  (5, ⟨(some 8), .mv (.c (.t (.i .i64 0))), none⟩)]
abbrev f12r6 : Pc := .reg f12o6 [4, 5, 6, 7, 8] [2]
abbrev f12o7 : List (Nat × Pop) := [
  (0, ⟨(some 37), .mv (.tmp 10), none⟩),
  (1, ⟨(some 38), .call 13 [(.c (.t (.i .u8 65))), (.tmp 37), (.c (.t (.s [])))], none⟩),
  (2, ⟨(some 36), .mv (.tmp 38), none⟩),
  (3, ⟨(some 39), .ext 0 (.tmp 36), none⟩),
  (4, ⟨(some 40), .ext 1 (.tmp 36), none⟩),
  (5, ⟨(some 13), .mv (.tmp 39), none⟩),
  (6, ⟨(some 14), .mv (.tmp 40), none⟩)]
abbrev f12r7 : Pc := .reg f12o7 [2, 4, 10, 11, 13] []
abbrev f12o8 : List (Nat × Pop) := [
  (0, ⟨(some 42), .fad 2 (.tmp 2), none⟩),
  (1, ⟨(some 43), .load true 2 (.tmp 42), none⟩),
  (2, ⟨(some 44), .mv (.tmp 10), none⟩),
  (3, ⟨(some 45), .call 17 [(.tmp 43), (.tmp 44)], none⟩),
  (4, ⟨(some 41), .mv (.tmp 45), none⟩),
  (5, ⟨(some 46), .ext 0 (.tmp 41), none⟩),
  (6, ⟨(some 47), .ext 1 (.tmp 41), none⟩),
  (7, ⟨(some 15), .alloc 28 [(.t (.i .i64 0)), .nl], none⟩),
  (8, ⟨none, .store 2 (.tmp 15) (.tmp 46), none⟩),
  (9, ⟨(some 16), .mv (.tmp 47), none⟩)]
abbrev f12r8 : Pc := .reg f12o8 [2, 4, 11, 13, 15, 16] []
abbrev f12o9 : List (Nat × Pop) := [
  (0, ⟨(some 48), .mv (.tmp 16), none⟩),
  (1, ⟨(some 49), .un .not (.tmp 48), none⟩)]
abbrev f12r9 : Pc := .reg f12o9 [2, 4, 11, 13, 15, 49] []
abbrev f12o10 : List (Nat × Pop) := [
  (0, ⟨(some 50), .load true 4 (.tmp 2), none⟩),
  (1, ⟨(some 51), .mv (.tmp 13), none⟩),
  (2, ⟨none, .store 4 (.tmp 4) (.tmp 50), none⟩),
  (3, ⟨(some 5), .mv (.c (.t (.s []))), none⟩),
  (4, ⟨(some 6), .mv (.c (.t (.b false))), none⟩),
  (5, ⟨(some 7), .mv (.tmp 51), none⟩),
  (6, ⟨(some 8), .mv (.c (.t (.i .i64 0))), none⟩)]
abbrev f12r10 : Pc := .reg f12o10 [4, 5, 6, 7, 8] [2, 15]
abbrev f12o11 : List (Nat × Pop) := [
  (0, ⟨(some 52), .load true 2 (.tmp 15), none⟩),
  (1, ⟨(some 53), .fad 2 (.tmp 2), none⟩),
  (2, ⟨none, .store 2 (.tmp 53) (.tmp 52), none⟩)]
abbrev f12r11 : Pc := .reg f12o11 [2, 4, 11, 13] [15]
abbrev f12o12 : List (Nat × Pop) := [
  (0, ⟨(some 54), .load true 4 (.tmp 2), none⟩),
  (1, ⟨(some 55), .mv (.tmp 11), none⟩),
  (2, ⟨(some 56), .mv (.tmp 13), none⟩),
  (3, ⟨none, .store 4 (.tmp 4) (.tmp 54), none⟩),
  (4, ⟨(some 5), .mv (.tmp 55), none⟩),
  (5, ⟨(some 6), .mv (.c (.t (.b true))), none⟩),
  (6, ⟨(some 7), .mv (.tmp 56), none⟩),
  (7, ⟨(some 8), .mv (.c (.t (.i .i64 0))), none⟩)]
abbrev f12r12 : Pc := .reg f12o12 [4, 5, 6, 7, 8] [2]
abbrev f12b : Pc := (.seq f12r0 (.seq f12r1 (.seq (.seq f12r2 (.cond (.tmp 25) (.seq f12r3 .ret) .skip)) (.seq (.seq f12r4 (.cond (.tmp 29) (.seq f12r5 (.seq f12r6 .ret)) .skip)) (.seq f12r7 (.seq f12r8 (.seq (.seq f12r9 (.cond (.tmp 49) (.seq f12r10 .ret) .skip)) (.seq f12r11 (.seq f12r12 .ret)))))))))
abbrev f12 : Pfn := ⟨2, 57, [.cell 4 true 4, .tmp 5, .tmp 6, .tmp 7, .tmp 8], f12b⟩
def f12K : Array (List Nat) := #[[1, 2, 4], [2, 4, 9, 10, 11, 12], [2, 4, 9, 10, 11, 12, 25], [4, 5, 6, 7, 8], [2, 4, 10, 11, 29], [2, 4], [4, 5, 6, 7, 8], [2, 4, 10, 11, 13], [2, 4, 11, 13, 15, 16], [2, 4, 11, 13, 15, 49], [4, 5, 6, 7, 8], [2, 4, 11, 13], [4, 5, 6, 7, 8]]
def f12H : Array (List Nat) := #[[], [], [], [2], [], [], [2], [], [], [], [2, 15], [15], [2]]
def f12A : Ann := ⟨fun r => f12K.getD r [], fun r => f12H.getD r [], fun r i => ([] : List (Nat × Nat)).contains (r, i)⟩
theorem f12C : compF Try.prog f12A 12 = some f12 := by kernel_rfl

/-- switchboard/port.Pack -/
abbrev f13o0 : List (Nat × Pop) := [
  (0, ⟨(some 6), .mv (.c (.t (.s []))), none⟩),
  (1, ⟨(some 7), .mv (.c (.t (.i .i64 0))), none⟩)]
abbrev f13r0 : Pc := .reg f13o0 [0, 1, 2] []
abbrev f13o1 : List (Nat × Pop) := [
  (0, ⟨(some 9), .mv (.tmp 0), none⟩)]
abbrev f13r1 : Pc := .reg f13o1 [0, 1, 2, 9] []
abbrev f13o2 : List (Nat × Pop) := [
  (0, ⟨(some 11), .bin .eql (.tmp 9) (.c (.t (.i .u8 65))), none⟩),
  (1, ⟨(some 10), .mv (.tmp 11), none⟩)]
abbrev f13r2 : Pc := .reg f13o2 [0, 1, 2, 9, 10] []
abbrev f13o3 : List (Nat × Pop) := [
  (0, ⟨(some 13), .bin .eql (.tmp 9) (.c (.t (.i .u8 68))), none⟩),
  (1, ⟨(some 12), .mv (.tmp 13), none⟩)]
abbrev f13r3 : Pc := .reg f13o3 [0, 1, 2, 12] []
abbrev f13o4 : List (Nat × Pop) := [
  (0, ⟨(some 14), .mv (.tmp 2), none⟩),
  (1, ⟨(some 15), .bin .neq (.tmp 14) (.c (.t (.s []))), none⟩)]
abbrev f13r4 : Pc := .reg f13o4 [0, 1, 2, 15] []
abbrev f13o5 : List (Nat × Pop) := [
  (0, ⟨(some 6), .mv (.c (.t (.s []))), none⟩),
  (1, ⟨(some 7), .mv (.c (.t (.i .i64 1))), none⟩)]
abbrev f13r5 : Pc := .reg f13o5 [6, 7] []
abbrev f13o6 : List (Nat × Pop) := [
  (0, ⟨(some 16), .mv (.tmp 1), none⟩),
  (1, ⟨(some 17), .bin .lss (.tmp 16) (.c (.t (.i .i64 0))), none⟩),
  (2, ⟨(some 18), .mv (.tmp 17), none⟩),
  (3, ⟨(some 19), .mv (.tmp 1), (some (18, false))⟩),
  (4, ⟨(some 20), .bin .gtr (.tmp 19) (.c (.t (.i .i64 2147483647))), (some (18, false))⟩),
  (5, ⟨(some 21), .pick (.tmp 18) (.c (.t (.b true))) (.tmp 20), none⟩)]
abbrev f13r6 : Pc := .reg f13o6 [0, 1, 2, 21] []
abbrev f13o7 : List (Nat × Pop) := [
  (0, ⟨(some 6), .mv (.c (.t (.s []))), none⟩),
  (1, ⟨(some 7), .mv (.c (.t (.i .i64 1))), none⟩)]
abbrev f13r7 : Pc := .reg f13o7 [6, 7] []
abbrev f13o8 : List (Nat × Pop) := [
  (0, ⟨(some 22), .mv (.tmp 0), none⟩),
  (1, ⟨(some 23), .bslF 1 [(.tmp 22)], none⟩),
  (2, ⟨(some 24), .cvbs (.tmp 23), none⟩),
  (3, ⟨(some 25), .mv (.tmp 1), none⟩),
  (4, ⟨(some 26), .callq 18 [(.tmp 25)], none⟩),
  (5, ⟨(some 27), .bin .add (.tmp 24) (.tmp 26), none⟩),
  (6, ⟨(some 28), .mv (.tmp 2), none⟩),
  (7, ⟨(some 29), .bin .add (.tmp 27) (.tmp 28), none⟩),
  (8, ⟨(some 8), .mv (.tmp 29), none⟩)]
abbrev f13r8 : Pc := .reg f13o8 [8] []
abbrev f13o9 : List (Nat × Pop) := [
  (0, ⟨(some 30), .mv (.tmp 8), none⟩),
  (1, ⟨(some 31), .mv (.tmp 8), none⟩),
  (2, ⟨(some 32), .call 19 [(.tmp 31)], none⟩),
  (3, ⟨(some 33), .call 18 [(.tmp 32)], none⟩),
  (4, ⟨(some 34), .bin .add (.tmp 30) (.tmp 33), none⟩),
  (5, ⟨(some 6), .mv (.tmp 34), none⟩),
  (6, ⟨(some 7), .mv (.c (.t (.i .i64 0))), none⟩)]
abbrev f13r9 : Pc := .reg f13o9 [6, 7] []
abbrev f13o10 : List (Nat × Pop) := [
  (0, ⟨(some 6), .mv (.c (.t (.s []))), none⟩),
  (1, ⟨(some 7), .mv (.c (.t (.i .i64 1))), none⟩)]
abbrev f13r10 : Pc := .reg f13o10 [6, 7] []
abbrev f13b : Pc := (.seq f13r0 (.seq (.seq f13r1 (.block 0 (.seq (.block 2 (.seq (.block 1 (.seq (.seq (.seq f13r2 (.cond (.tmp 10) (.exit 1) .skip)) (.seq f13r3 (.cond (.tmp 12) (.exit 2) .skip))) (.exit 0))) (.seq f13r4 (.cond (.tmp 15) (.seq f13r5 .ret) .skip)))) (.seq (.seq (.seq f13r6 (.cond (.tmp 21) (.seq f13r7 .ret) .skip)) (.seq f13r8 (.seq f13r9 .ret))) (.exit 0))))) (.seq f13r10 .ret)))
abbrev f13 : Pfn := ⟨3, 35, [.tmp 6, .tmp 7], f13b⟩
def f13K : Array (List Nat) := #[[0, 1, 2], [0, 1, 2, 9], [0, 1, 2, 9, 10], [0, 1, 2, 12], [0, 1, 2, 15], [6, 7], [0, 1, 2, 21], [6, 7], [8], [6, 7], [6, 7]]
def f13H : Array (List Nat) := #[[], [], [], [], [], [], [], [], [], [], []]
def f13A : Ann := ⟨fun r => f13K.getD r [], fun r => f13H.getD r [], fun r i => ([(8, 1001)] : List (Nat × Nat)).contains (r, i)⟩
theorem f13C : compF Try.prog f13A 13 = some f13 := by kernel_rfl

/-- switchboard/link.Push -/
abbrev f14o0 : List (Nat × Pop) := [
  (0, ⟨(some 2), .box 25 2 (.tmp 0), none⟩),
  (1, ⟨(some 4), .alloc 25 [(.t (.i .i64 0)), .nl], none⟩),
  (2, ⟨(some 5), .mv (.c (.t (.i .i64 0))), none⟩),
  (3, ⟨(some 6), .mv (.c (.t (.i .i64 0))), none⟩)]
abbrev f14r0 : Pc := .reg f14o0 [1, 2, 4] []
abbrev f14o1 : List (Nat × Pop) := [
  (0, ⟨(some 9), .load true 2 (.tmp 2), none⟩),
  (1, ⟨(some 10), .call 20 [(.tmp 9)], none⟩),
  (2, ⟨(some 11), .un .not (.tmp 10), none⟩),
  (3, ⟨(some 12), .mv (.tmp 11), none⟩),
  (4, ⟨(some 13), .fad 0 (.tmp 2), (some (12, false))⟩),
  (5, ⟨(some 14), .load false 1 (.tmp 13), (some (12, false))⟩),
  (6, ⟨(some 15), .bin .eql (.tmp 14) (.c (.t (.i .i64 2147483647))), (some (12, false))⟩),
  (7, ⟨(some 16), .pick (.tmp 12) (.c (.t (.b true))) (.tmp 15), none⟩),
  (8, ⟨(some 8), .mv (.tmp 16), none⟩)]
abbrev f14r1 : Pc := .reg f14o1 [1, 2, 4, 8] []
abbrev f14o2 : List (Nat × Pop) := [
  (0, ⟨(some 17), .load true 2 (.tmp 2), none⟩),
  (1, ⟨none, .store 2 (.tmp 4) (.tmp 17), none⟩),
  (2, ⟨(some 5), .mv (.c (.t (.i .i64 0))), none⟩),
  (3, ⟨(some 6), .mv (.c (.t (.i .i64 1))), none⟩)]
abbrev f14r2 : Pc := .reg f14o2 [4, 5, 6] [2]
abbrev f14o3 : List (Nat × Pop) := [
  (0, ⟨(some 19), .fad 1 (.tmp 2), none⟩),
  (1, ⟨(some 20), .load false 1 (.tmp 19), none⟩),
  (2, ⟨(some 21), .lenL (.tmp 20), none⟩),
  (3, ⟨(some 22), .bin .eql (.tmp 21) (.c (.t (.i .i64 64))), none⟩),
  (4, ⟨(some 18), .mv (.tmp 22), none⟩)]
abbrev f14r3 : Pc := .reg f14o3 [1, 2, 4, 18] []
abbrev f14o4 : List (Nat × Pop) := [
  (0, ⟨(some 23), .load true 2 (.tmp 2), none⟩),
  (1, ⟨none, .store 2 (.tmp 4) (.tmp 23), none⟩),
  (2, ⟨(some 5), .mv (.c (.t (.i .i64 0))), none⟩),
  (3, ⟨(some 6), .mv (.c (.t (.i .i64 8))), none⟩)]
abbrev f14r4 : Pc := .reg f14o4 [4, 5, 6] [2]
abbrev f14o5 : List (Nat × Pop) := [
  (0, ⟨(some 24), .fad 0 (.tmp 2), none⟩),
  (1, ⟨(some 25), .load false 1 (.tmp 24), none⟩),
  (2, ⟨(some 7), .mv (.tmp 25), none⟩)]
abbrev f14r5 : Pc := .reg f14o5 [1, 2, 4, 7] []
abbrev f14o6 : List (Nat × Pop) := [
  (0, ⟨(some 26), .mv (.tmp 7), none⟩),
  (1, ⟨(some 27), .bin .add (.tmp 26) (.c (.t (.i .i64 1))), none⟩),
  (2, ⟨(some 28), .fad 1 (.tmp 2), none⟩),
  (3, ⟨(some 29), .load false 1 (.tmp 28), none⟩),
  (4, ⟨(some 30), .call 21 [(.tmp 29)], none⟩),
  (5, ⟨(some 31), .mv (.tmp 7), none⟩),
  (6, ⟨(some 32), .mv (.tmp 1), none⟩),
  (7, ⟨(some 33), .build [(.t (.i .i64 0)), (.t (.s []))] [(0, 1, (.tmp 31)), (1, 1, (.tmp 32))], none⟩),
  (8, ⟨(some 34), .bslT 2 [(.tmp 33)], none⟩),
  (9, ⟨(some 35), .app 50 2 24 (.tmp 30) (.tmp 34), none⟩),
  (10, ⟨(some 36), .build [(.t (.i .i64 0)), .nl] [(0, 1, (.tmp 27)), (1, 1, (.tmp 35))], none⟩),
  (11, ⟨(some 37), .mv (.tmp 7), none⟩),
  (12, ⟨none, .store 2 (.tmp 4) (.tmp 36), none⟩),
  (13, ⟨(some 5), .mv (.tmp 37), none⟩),
  (14, ⟨(some 6), .mv (.c (.t (.i .i64 0))), none⟩)]
abbrev f14r6 : Pc := .reg f14o6 [4, 5, 6] [2]
abbrev f14b : Pc := (.seq f14r0 (.seq (.block 0 (.seq f14r1 (.cond (.tmp 8) (.seq f14r2 .ret) (.seq f14r3 (.cond (.tmp 18) (.seq f14r4 .ret) .skip))))) (.seq f14r5 (.seq f14r6 .ret))))
abbrev f14 : Pfn := ⟨2, 38, [.cell 4 true 2, .tmp 5, .tmp 6], f14b⟩
def f14K : Array (List Nat) := #[[1, 2, 4], [1, 2, 4, 8], [4, 5, 6], [1, 2, 4, 18], [4, 5, 6], [1, 2, 4, 7], [4, 5, 6]]
def f14H : Array (List Nat) := #[[], [], [2], [], [2], [], [2]]
def f14A : Ann := ⟨fun r => f14K.getD r [], fun r => f14H.getD r [], fun r i => ([] : List (Nat × Nat)).contains (r, i)⟩
theorem f14C : compF Try.prog f14A 14 = some f14 := by kernel_rfl

/-- switchboard/port.Unpack -/
abbrev f15o0 : List (Nat × Pop) := [
  (0, ⟨(some 2), .mv (.c (.t (.i .u8 0))), none⟩),
  (1, ⟨(some 3), .mv (.c (.t (.i .i64 0))), none⟩),
  (2, ⟨(some 4), .mv (.c (.t (.s []))), none⟩),
  (3, ⟨(some 5), .mv (.c (.t (.i .i64 0))), none⟩)]
abbrev f15r0 : Pc := .reg f15o0 [0] []
abbrev f15o1 : List (Nat × Pop) := [
  (0, ⟨(some 10), .mv (.tmp 0), none⟩),
  (1, ⟨(some 11), .lenS (.tmp 10), none⟩),
  (2, ⟨(some 12), .bin .lss (.tmp 11) (.c (.t (.i .i64 9))), none⟩)]
abbrev f15r1 : Pc := .reg f15o1 [0, 12] []
abbrev f15o2 : List (Nat × Pop) := [
  (0, ⟨(some 2), .mv (.c (.t (.i .u8 0))), none⟩),
  (1, ⟨(some 3), .mv (.c (.t (.i .i64 0))), none⟩),
  (2, ⟨(some 4), .mv (.c (.t (.s []))), none⟩),
  (3, ⟨(some 5), .mv (.c (.t (.i .i64 2))), none⟩)]
abbrev f15r2 : Pc := .reg f15o2 [2, 3, 4, 5] []
abbrev f15o3 : List (Nat × Pop) := [
  (0, ⟨(some 13), .mv (.tmp 0), none⟩),
  (1, ⟨(some 14), .lenS (.tmp 13), none⟩),
  (2, ⟨(some 15), .bin .sub (.tmp 14) (.c (.t (.i .i64 4))), none⟩),
  (3, ⟨(some 6), .mv (.tmp 15), none⟩)]
abbrev f15r3 : Pc := .reg f15o3 [0, 6] []
abbrev f15o4 : List (Nat × Pop) := [
  (0, ⟨(some 16), .mv (.tmp 0), none⟩),
  (1, ⟨(some 17), .mv (.tmp 6), none⟩),
  (2, ⟨(some 18), .slS (.tmp 16) (some (.tmp 17)) none, none⟩),
  (3, ⟨(some 19), .mv (.tmp 0), none⟩),
  (4, ⟨(some 20), .mv (.tmp 6), none⟩),
  (5, ⟨(some 21), .slS (.tmp 19) none (some (.tmp 20)), none⟩),
  (6, ⟨(some 22), .callq 19 [(.tmp 21)], none⟩),
  (7, ⟨(some 23), .callq 18 [(.tmp 22)], none⟩),
  (8, ⟨(some 24), .bin .neq (.tmp 18) (.tmp 23), none⟩)]
abbrev f15r4 : Pc := .reg f15o4 [0, 6, 24] []
abbrev f15o5 : List (Nat × Pop) := [
  (0, ⟨(some 2), .mv (.c (.t (.i .u8 0))), none⟩),
  (1, ⟨(some 3), .mv (.c (.t (.i .i64 0))), none⟩),
  (2, ⟨(some 4), .mv (.c (.t (.s []))), none⟩),
  (3, ⟨(some 5), .mv (.c (.t (.i .i64 9))), none⟩)]
abbrev f15r5 : Pc := .reg f15o5 [2, 3, 4, 5] []
abbrev f15o6 : List (Nat × Pop) := [
  (0, ⟨(some 25), .mv (.tmp 0), none⟩),
  (1, ⟨(some 26), .ixs (.tmp 25) (.c (.t (.i .i64 1))), none⟩),
  (2, ⟨(some 27), .cvi .i64 (.tmp 26), none⟩),
  (3, ⟨(some 28), .mv (.tmp 0), none⟩),
  (4, ⟨(some 29), .ixs (.tmp 28) (.c (.t (.i .i64 2))), none⟩),
  (5, ⟨(some 30), .cvi .i64 (.tmp 29), none⟩),
  (6, ⟨(some 31), .bin .shl (.tmp 30) (.c (.t (.i .u64 8))), none⟩),
  (7, ⟨(some 32), .bin .or (.tmp 27) (.tmp 31), none⟩),
  (8, ⟨(some 33), .mv (.tmp 0), none⟩),
  (9, ⟨(some 34), .ixs (.tmp 33) (.c (.t (.i .i64 3))), none⟩),
  (10, ⟨(some 35), .cvi .i64 (.tmp 34), none⟩),
  (11, ⟨(some 36), .bin .shl (.tmp 35) (.c (.t (.i .u64 16))), none⟩),
  (12, ⟨(some 37), .bin .or (.tmp 32) (.tmp 36), none⟩),
  (13, ⟨(some 38), .mv (.tmp 0), none⟩),
  (14, ⟨(some 39), .ixs (.tmp 38) (.c (.t (.i .i64 4))), none⟩),
  (15, ⟨(some 40), .cvi .i64 (.tmp 39), none⟩),
  (16, ⟨(some 41), .bin .shl (.tmp 40) (.c (.t (.i .u64 24))), none⟩),
  (17, ⟨(some 42), .bin .or (.tmp 37) (.tmp 41), none⟩),
  (18, ⟨(some 7), .mv (.tmp 42), none⟩)]
abbrev f15r6 : Pc := .reg f15o6 [0, 6, 7] []
abbrev f15o7 : List (Nat × Pop) := [
  (0, ⟨(some 44), .mv (.tmp 0), none⟩),
  (1, ⟨(some 45), .ixs (.tmp 44) (.c (.t (.i .i64 0))), none⟩),
  (2, ⟨(some 46), .mv (.tmp 7), none⟩),
  (3, ⟨(some 47), .mv (.tmp 0), none⟩),
  (4, ⟨(some 48), .mv (.tmp 6), none⟩),
  (5, ⟨(some 49), .slS (.tmp 47) (some (.c (.t (.i .i64 5)))) (some (.tmp 48)), none⟩),
  (6, ⟨(some 50), .callq 13 [(.tmp 45), (.tmp 46), (.tmp 49)], none⟩),
  (7, ⟨(some 43), .mv (.tmp 50), none⟩),
  (8, ⟨(some 51), .ext 0 (.tmp 43), none⟩),
  (9, ⟨(some 52), .ext 1 (.tmp 43), none⟩),
  (10, ⟨(some 8), .mv (.tmp 51), none⟩),
  (11, ⟨(some 9), .mv (.tmp 52), none⟩)]
abbrev f15r7 : Pc := .reg f15o7 [0, 6, 7, 8, 9] []
abbrev f15o8 : List (Nat × Pop) := [
  (0, ⟨(some 53), .mv (.tmp 9), none⟩),
  (1, ⟨(some 54), .bin .neq (.tmp 53) (.c (.t (.i .i64 0))), none⟩),
  (2, ⟨(some 55), .mv (.tmp 54), none⟩),
  (3, ⟨(some 56), .mv (.tmp 8), (some (55, false))⟩),
  (4, ⟨(some 57), .mv (.tmp 0), (some (55, false))⟩),
  (5, ⟨(some 58), .bin .neq (.tmp 56) (.tmp 57), (some (55, false))⟩),
  (6, ⟨(some 59), .pick (.tmp 55) (.c (.t (.b true))) (.tmp 58), none⟩)]
abbrev f15r8 : Pc := .reg f15o8 [0, 6, 7, 59] []
abbrev f15o9 : List (Nat × Pop) := [
  (0, ⟨(some 2), .mv (.c (.t (.i .u8 0))), none⟩),
  (1, ⟨(some 3), .mv (.c (.t (.i .i64 0))), none⟩),
  (2, ⟨(some 4), .mv (.c (.t (.s []))), none⟩),
  (3, ⟨(some 5), .mv (.c (.t (.i .i64 2))), none⟩)]
abbrev f15r9 : Pc := .reg f15o9 [2, 3, 4, 5] []
abbrev f15o10 : List (Nat × Pop) := [
  (0, ⟨(some 60), .mv (.tmp 0), none⟩),
  (1, ⟨(some 61), .ixs (.tmp 60) (.c (.t (.i .i64 0))), none⟩),
  (2, ⟨(some 62), .mv (.tmp 7), none⟩),
  (3, ⟨(some 63), .mv (.tmp 0), none⟩),
  (4, ⟨(some 64), .mv (.tmp 6), none⟩),
  (5, ⟨(some 65), .slS (.tmp 63) (some (.c (.t (.i .i64 5)))) (some (.tmp 64)), none⟩),
  (6, ⟨(some 2), .mv (.tmp 61), none⟩),
  (7, ⟨(some 3), .mv (.tmp 62), none⟩),
  (8, ⟨(some 4), .mv (.tmp 65), none⟩),
  (9, ⟨(some 5), .mv (.c (.t (.i .i64 0))), none⟩)]
abbrev f15r10 : Pc := .reg f15o10 [2, 3, 4, 5] []
abbrev f15b : Pc := (.seq f15r0 (.seq (.seq f15r1 (.cond (.tmp 12) (.seq f15r2 .ret) .skip)) (.seq f15r3 (.seq (.seq f15r4 (.cond (.tmp 24) (.seq f15r5 .ret) .skip)) (.seq f15r6 (.seq (.seq f15r7 (.seq f15r8 (.cond (.tmp 59) (.seq f15r9 .ret) .skip))) (.seq f15r10 .ret)))))))
abbrev f15 : Pfn := ⟨1, 66, [.tmp 2, .tmp 3, .tmp 4, .tmp 5], f15b⟩
def f15K : Array (List Nat) := #[[0], [0, 12], [2, 3, 4, 5], [0, 6], [0, 6, 24], [2, 3, 4, 5], [0, 6, 7], [0, 6, 7, 8, 9], [0, 6, 7, 59], [2, 3, 4, 5], [2, 3, 4, 5]]
def f15H : Array (List Nat) := #[[], [], [], [], [], [], [], [], [], [], []]
def f15A : Ann := ⟨fun r => f15K.getD r [], fun r => f15H.getD r [], fun r i => ([] : List (Nat × Nat)).contains (r, i)⟩
theorem f15C : compF Try.prog f15A 15 = some f15 := by kernel_rfl

/-- switchboard/link.Told -/
abbrev f16o0 : List (Nat × Pop) := [
  (0, ⟨(some 2), .box 25 2 (.tmp 0), none⟩),
  (1, ⟨(some 3), .box 3 1 (.tmp 1), none⟩),
  (2, ⟨(some 4), .alloc 25 [(.t (.i .i64 0)), .nl], none⟩)]
abbrev f16r0 : Pc := .reg f16o0 [2, 3, 4] []
abbrev f16o1 : List (Nat × Pop) := [
  (0, ⟨(some 5), .fad 1 (.tmp 2), none⟩),
  (1, ⟨(some 6), .load false 1 (.tmp 5), none⟩),
  (2, ⟨(some 7), .call 21 [(.tmp 6)], none⟩),
  (3, ⟨(some 8), .mkfn 23 [(.tmp 3)], none⟩),
  (4, ⟨(some 9), .call 22 [(.tmp 7), (.tmp 8)], none⟩),
  (5, ⟨(some 10), .fad 1 (.tmp 2), none⟩),
  (6, ⟨none, .store 1 (.tmp 10) (.tmp 9), none⟩)]
abbrev f16r1 : Pc := .reg f16o1 [2, 4] []
abbrev f16o2 : List (Nat × Pop) := [
  (0, ⟨(some 11), .load true 2 (.tmp 2), none⟩),
  (1, ⟨none, .store 2 (.tmp 4) (.tmp 11), none⟩)]
abbrev f16r2 : Pc := .reg f16o2 [4] []
abbrev f16b : Pc := (.seq f16r0 (.seq f16r1 (.seq f16r2 .ret)))
abbrev f16 : Pfn := ⟨2, 12, [.cell 4 true 2], f16b⟩
def f16K : Array (List Nat) := #[[2, 3, 4], [2, 4], [4]]
def f16H : Array (List Nat) := #[[], [], []]
def f16A : Ann := ⟨fun r => f16K.getD r [], fun r => f16H.getD r [], fun r i => ([] : List (Nat × Nat)).contains (r, i)⟩
theorem f16C : compF Try.prog f16A 16 = some f16 := by kernel_rfl

/-- switchboard/window.Accept -/
abbrev f17o0 : List (Nat × Pop) := [
  (0, ⟨(some 2), .box 28 2 (.tmp 0), none⟩),
  (1, ⟨(some 4), .alloc 28 [(.t (.i .i64 0)), .nl], none⟩),
  (2, ⟨(some 5), .mv (.c (.t (.b false))), none⟩)]
abbrev f17r0 : Pc := .reg f17o0 [1, 2, 4] []
abbrev f17o1 : List (Nat × Pop) := [
  (0, ⟨(some 7), .load true 2 (.tmp 2), none⟩),
  (1, ⟨(some 8), .call 24 [(.tmp 7)], none⟩),
  (2, ⟨(some 9), .un .not (.tmp 8), none⟩),
  (3, ⟨(some 10), .mv (.tmp 9), none⟩),
  (4, ⟨(some 11), .mv (.tmp 1), (some (10, false))⟩),
  (5, ⟨(some 12), .bin .gtr (.tmp 11) (.c (.t (.i .i64 2147483647))), (some (10, false))⟩),
  (6, ⟨(some 13), .pick (.tmp 10) (.c (.t (.b true))) (.tmp 12), none⟩),
  (7, ⟨(some 14), .mv (.tmp 13), none⟩),
  (8, ⟨(some 15), .mv (.tmp 1), (some (14, false))⟩),
  (9, ⟨(some 16), .fad 0 (.tmp 2), (some (14, false))⟩),
  (10, ⟨(some 17), .load false 1 (.tmp 16), (some (14, false))⟩),
  (11, ⟨(some 18), .bin .lss (.tmp 15) (.tmp 17), (some (14, false))⟩),
  (12, ⟨(some 19), .pick (.tmp 14) (.c (.t (.b true))) (.tmp 18), none⟩),
  (13, ⟨(some 20), .mv (.tmp 19), none⟩),
  (14, ⟨(some 21), .fad 1 (.tmp 2), (some (20, false))⟩),
  (15, ⟨(some 22), .load false 1 (.tmp 21), (some (20, false))⟩),
  (16, ⟨(some 23), .mv (.tmp 1), (some (20, false))⟩),
  (17, ⟨(some 24), .call 25 [(.tmp 22), (.tmp 23)], (some (20, false))⟩),
  (18, ⟨(some 25), .pick (.tmp 20) (.c (.t (.b true))) (.tmp 24), none⟩)]
abbrev f17r1 : Pc := .reg f17o1 [1, 2, 4, 25] []
abbrev f17o2 : List (Nat × Pop) := [
  (0, ⟨(some 26), .load true 2 (.tmp 2), none⟩),
  (1, ⟨none, .store 2 (.tmp 4) (.tmp 26), none⟩),
  (2, ⟨(some 5), .mv (.c (.t (.b false))), none⟩)]
abbrev f17r2 : Pc := .reg f17o2 [4, 5] [2]
abbrev f17o3 : List (Nat × Pop) := [
  (0, ⟨(some 27), .fad 1 (.tmp 2), none⟩),
  (1, ⟨(some 28), .load false 1 (.tmp 27), none⟩),
  (2, ⟨(some 29), .call 26 [(.tmp 28)], none⟩),
  (3, ⟨(some 30), .mv (.tmp 1), none⟩),
  (4, ⟨(some 31), .bslT 1 [(.tmp 30)], none⟩),
  (5, ⟨(some 32), .app 3 1 8 (.tmp 29) (.tmp 31), none⟩),
  (6, ⟨(some 6), .mv (.tmp 32), none⟩)]
abbrev f17r3 : Pc := .reg f17o3 [2, 4, 6] []
abbrev f17o4 : List (Nat × Pop) := [
  (0, ⟨(some 33), .mv (.tmp 6), none⟩),
  (1, ⟨(some 34), .call 27 [(.tmp 33)], none⟩)]
abbrev f17r4 : Pc := .reg f17o4 [2, 4, 6] []
abbrev f17o5 : List (Nat × Pop) := [
  (0, ⟨(some 35), .mv (.tmp 6), none⟩),
  (1, ⟨(some 36), .lenL (.tmp 35), none⟩),
  (2, ⟨(some 37), .bin .gtr (.tmp 36) (.c (.t (.i .i64 32))), none⟩)]
abbrev f17r5 : Pc := .reg f17o5 [2, 4, 6, 37] []
abbrev f17o6 : List (Nat × Pop) := [
  (0, ⟨(some 38), .mv (.tmp 6), none⟩),
  (1, ⟨(some 39), .ixS 1 (.tmp 38) (.c (.t (.i .i64 0))), none⟩),
  (2, ⟨(some 40), .load false 1 (.tmp 39), none⟩),
  (3, ⟨(some 41), .bin .add (.tmp 40) (.c (.t (.i .i64 1))), none⟩),
  (4, ⟨(some 42), .mv (.tmp 6), none⟩),
  (5, ⟨(some 43), .sls 1 (.tmp 42) (some (.c (.t (.i .i64 1)))) none, none⟩),
  (6, ⟨(some 44), .fad 0 (.tmp 2), none⟩),
  (7, ⟨none, .store 1 (.tmp 44) (.tmp 41), none⟩),
  (8, ⟨(some 6), .mv (.tmp 43), none⟩)]
abbrev f17r6 : Pc := .reg f17o6 [2, 4, 6] []
def f17l0 : Pc := (.seq (.seq f17r5 (.cond (.tmp 37) .skip (.exit 0))) (.block 1 f17r6))
theorem f17l0e (C : Cfg) (s : St) : evL C f17l0 s = evL C (.seq (.seq f17r5 (.cond (.tmp 37) .skip (.exit 0))) (.block 1 f17r6)) s := rfl
abbrev f17o7 : List (Nat × Pop) := [
  (0, ⟨(some 45), .mv (.tmp 6), none⟩),
  (1, ⟨(some 46), .lenL (.tmp 45), none⟩),
  (2, ⟨(some 47), .bin .gtr (.tmp 46) (.c (.t (.i .i64 0))), none⟩),
  (3, ⟨(some 48), .mv (.tmp 47), none⟩),
  (4, ⟨(some 49), .mv (.tmp 6), (some (48, true))⟩),
  (5, ⟨(some 50), .ixS 1 (.tmp 49) (.c (.t (.i .i64 0))), (some (48, true))⟩),
  (6, ⟨(some 51), .load false 1 (.tmp 50), (some (48, true))⟩),
  (7, ⟨(some 52), .fad 0 (.tmp 2), (some (48, true))⟩),
  (8, ⟨(some 53), .load false 1 (.tmp 52), (some (48, true))⟩),
  (9, ⟨(some 54), .bin .eql (.tmp 51) (.tmp 53), (some (48, true))⟩),
  (10, ⟨(some 55), .pick (.tmp 48) (.tmp 54) (.c (.t (.b false))), none⟩)]
abbrev f17r7 : Pc := .reg f17o7 [2, 4, 6, 55] []
abbrev f17o8 : List (Nat × Pop) := [
  (0, ⟨(some 56), .fad 0 (.tmp 2), none⟩),
  (1, ⟨(some 57), .load false 1 (.tmp 56), none⟩),
  (2, ⟨(some 58), .bin .add (.tmp 57) (.c (.t (.i .i64 1))), none⟩),
  (3, ⟨(some 59), .mv (.tmp 6), none⟩),
  (4, ⟨(some 60), .sls 1 (.tmp 59) (some (.c (.t (.i .i64 1)))) none, none⟩),
  (5, ⟨(some 61), .fad 0 (.tmp 2), none⟩),
  (6, ⟨none, .store 1 (.tmp 61) (.tmp 58), none⟩),
  (7, ⟨(some 6), .mv (.tmp 60), none⟩)]
abbrev f17r8 : Pc := .reg f17o8 [2, 4, 6] []
def f17l1 : Pc := (.seq (.seq f17r7 (.cond (.tmp 55) .skip (.exit 2))) (.block 3 f17r8))
theorem f17l1e (C : Cfg) (s : St) : evL C f17l1 s = evL C (.seq (.seq f17r7 (.cond (.tmp 55) .skip (.exit 2))) (.block 3 f17r8)) s := rfl
abbrev f17o9 : List (Nat × Pop) := [
  (0, ⟨(some 62), .mv (.tmp 6), none⟩),
  (1, ⟨(some 63), .call 26 [(.tmp 62)], none⟩),
  (2, ⟨(some 64), .fad 1 (.tmp 2), none⟩),
  (3, ⟨none, .store 1 (.tmp 64) (.tmp 63), none⟩)]
abbrev f17r9 : Pc := .reg f17o9 [2, 4] [29, 32]
abbrev f17o10 : List (Nat × Pop) := [
  (0, ⟨(some 65), .load true 2 (.tmp 2), none⟩),
  (1, ⟨none, .store 2 (.tmp 4) (.tmp 65), none⟩),
  (2, ⟨(some 5), .mv (.c (.t (.b true))), none⟩)]
abbrev f17r10 : Pc := .reg f17o10 [4, 5] [2]
abbrev f17b : Pc := (.seq f17r0 (.seq (.seq f17r1 (.cond (.tmp 25) (.seq f17r2 .ret) .skip)) (.seq f17r3 (.seq f17r4 (.seq (.block 0 (.loop f17l0)) (.seq (.block 2 (.loop f17l1)) (.seq f17r9 (.seq f17r10 .ret))))))))
abbrev f17 : Pfn := ⟨2, 66, [.cell 4 true 2, .tmp 5], f17b⟩
def f17K : Array (List Nat) := #[[1, 2, 4], [1, 2, 4, 25], [4, 5], [2, 4, 6], [2, 4, 6], [2, 4, 6, 37], [2, 4, 6], [2, 4, 6, 55], [2, 4, 6], [2, 4], [4, 5]]
def f17H : Array (List Nat) := #[[], [], [2], [], [], [], [], [], [], [29, 32], [2]]
def f17A : Ann := ⟨fun r => f17K.getD r [], fun r => f17H.getD r [], fun r i => ([] : List (Nat × Nat)).contains (r, i)⟩
theorem f17C : compF Try.prog f17A 17 = some f17 := by kernel_rfl

/-- switchboard/port.four -/
abbrev f18o0 : List (Nat × Pop) := [
  (0, ⟨(some 2), .mv (.c (.t (.s []))), none⟩)]
abbrev f18r0 : Pc := .reg f18o0 [0] []
abbrev f18o1 : List (Nat × Pop) := [
  (0, ⟨(some 3), .mv (.tmp 0), none⟩),
  (1, ⟨(some 4), .cvi .u8 (.tmp 3), none⟩),
  (2, ⟨(some 5), .mv (.tmp 0), none⟩),
  (3, ⟨(some 6), .bin .shr (.tmp 5) (.c (.t (.i .u64 8))), none⟩),
  (4, ⟨(some 7), .cvi .u8 (.tmp 6), none⟩),
  (5, ⟨(some 8), .mv (.tmp 0), none⟩),
  (6, ⟨(some 9), .bin .shr (.tmp 8) (.c (.t (.i .u64 16))), none⟩),
  (7, ⟨(some 10), .cvi .u8 (.tmp 9), none⟩),
  (8, ⟨(some 11), .mv (.tmp 0), none⟩),
  (9, ⟨(some 12), .bin .shr (.tmp 11) (.c (.t (.i .u64 24))), none⟩),
  (10, ⟨(some 13), .cvi .u8 (.tmp 12), none⟩),
  (11, ⟨(some 14), .bslT 1 [(.tmp 4), (.tmp 7), (.tmp 10), (.tmp 13)], none⟩),
  (12, ⟨(some 15), .cvbs (.tmp 14), none⟩),
  (13, ⟨(some 2), .mv (.tmp 15), none⟩)]
abbrev f18r1 : Pc := .reg f18o1 [2] []
abbrev f18b : Pc := (.seq f18r0 (.seq f18r1 .ret))
abbrev f18 : Pfn := ⟨1, 16, [.tmp 2], f18b⟩
def f18K : Array (List Nat) := #[[0], [2]]
def f18H : Array (List Nat) := #[[], []]
def f18A : Ann := ⟨fun r => f18K.getD r [], fun r => f18H.getD r [], fun r i => ([] : List (Nat × Nat)).contains (r, i)⟩
theorem f18C : compF Try.prog f18A 18 = some f18 := by kernel_rfl

/-- switchboard/crc.Sum -/
abbrev f19o0 : List (Nat × Pop) := [
  (0, ⟨(some 2), .mv (.c (.t (.i .i64 0))), none⟩)]
abbrev f19r0 : Pc := .reg f19o0 [0] []
abbrev f19o1 : List (Nat × Pop) := [
  (0, ⟨(some 3), .mv (.c (.t (.i .u32 4294967295))), none⟩)]
abbrev f19r1 : Pc := .reg f19o1 [0, 3] []
abbrev f19o2 : List (Nat × Pop) := [
  (0, ⟨(some 7), .mv (.tmp 0), none⟩),
  (1, ⟨(some 8), .sbs 5 (.tmp 7), none⟩),
  (2, ⟨(some 9), .lenL (.tmp 8), none⟩),
  (3, ⟨(some 10), .mv (.c (.t (.i .i64 0))), none⟩)]
abbrev f19r2 : Pc := .reg f19o2 [3, 8, 9, 10] []
abbrev f19o3 : List (Nat × Pop) := [
  (0, ⟨(some 11), .bin .lss (.tmp 10) (.tmp 9), none⟩)]
abbrev f19r3 : Pc := .reg f19o3 [3, 8, 9, 10, 11] []
abbrev f19o4 : List (Nat × Pop) := [
  (0, ⟨(some 12), .ixS 1 (.tmp 8) (.tmp 10), none⟩),
  (1, ⟨(some 13), .load false 1 (.tmp 12), none⟩),
  (2, ⟨(some 5), .mv (.tmp 13), none⟩)]
abbrev f19r4 : Pc := .reg f19o4 [3, 5, 8, 9, 10] []
abbrev f19o5 : List (Nat × Pop) := [
  (0, ⟨(some 14), .mv (.tmp 3), none⟩),
  (1, ⟨(some 15), .mv (.tmp 5), none⟩),
  (2, ⟨(some 16), .cvi .u32 (.tmp 15), none⟩),
  (3, ⟨(some 17), .bin .xor (.tmp 14) (.tmp 16), none⟩),
  (4, ⟨(some 3), .mv (.tmp 17), none⟩)]
abbrev f19r5 : Pc := .reg f19o5 [3, 8, 9, 10] []
abbrev f19o6 : List (Nat × Pop) := [
  (0, ⟨(some 18), .mv (.c (.t (.i .i64 0))), none⟩)]
abbrev f19r6 : Pc := .reg f19o6 [3, 8, 9, 10, 18] []
abbrev f19o7 : List (Nat × Pop) := [
  (0, ⟨(some 19), .bin .lss (.tmp 18) (.c (.t (.i .i64 8))), none⟩)]
abbrev f19r7 : Pc := .reg f19o7 [3, 8, 9, 10, 18, 19] []
abbrev f19o8 : List (Nat × Pop) := [
  (0, ⟨(some 20), .mv (.tmp 3), none⟩),
  (1, ⟨(some 21), .bin .and (.tmp 20) (.c (.t (.i .u32 1))), none⟩),
  (2, ⟨(some 6), .mv (.tmp 21), none⟩)]
abbrev f19r8 : Pc := .reg f19o8 [3, 6, 8, 9, 10, 18] []
abbrev f19o9 : List (Nat × Pop) := [
  (0, ⟨(some 22), .mv (.tmp 3), none⟩),
  (1, ⟨(some 23), .bin .shr (.tmp 22) (.c (.t (.i .u64 1))), none⟩),
  (2, ⟨(some 3), .mv (.tmp 23), none⟩)]
abbrev f19r9 : Pc := .reg f19o9 [3, 6, 8, 9, 10, 18] []
abbrev f19o10 : List (Nat × Pop) := [
  (0, ⟨(some 24), .mv (.tmp 3), none⟩),
  (1, ⟨(some 25), .mv (.tmp 6), none⟩),
  (2, ⟨(some 26), .bin .mul (.c (.t (.i .u32 3988292384))) (.tmp 25), none⟩),
  (3, ⟨(some 27), .bin .xor (.tmp 24) (.tmp 26), none⟩),
  (4, ⟨(some 3), .mv (.tmp 27), none⟩)]
abbrev f19r10 : Pc := .reg f19o10 [3, 8, 9, 10, 18] []
abbrev f19o11 : List (Nat × Pop) := [
  (0, ⟨(some 28), .bin .add (.tmp 18) (.c (.t (.i .i64 1))), none⟩),
  (1, ⟨(some 18), .mv (.tmp 28), none⟩)]
abbrev f19r11 : Pc := .reg f19o11 [3, 8, 9, 10, 18] []
def f19l0 : Pc := (.seq f19r7 (.seq (.cond (.tmp 19) .skip (.exit 2)) (.seq (.block 3 (.seq f19r8 (.seq f19r9 f19r10))) f19r11)))
theorem f19l0e (C : Cfg) (s : St) : evL C f19l0 s = evL C (.seq f19r7 (.seq (.cond (.tmp 19) .skip (.exit 2)) (.seq (.block 3 (.seq f19r8 (.seq f19r9 f19r10))) f19r11))) s := rfl
abbrev f19o12 : List (Nat × Pop) := [
  (0, ⟨(some 29), .bin .add (.tmp 10) (.c (.t (.i .i64 1))), none⟩),
  (1, ⟨(some 10), .mv (.tmp 29), none⟩)]
abbrev f19r12 : Pc := .reg f19o12 [3, 8, 9, 10] []
def f19l1 : Pc := (.seq f19r3 (.seq (.cond (.tmp 11) .skip (.exit 0)) (.seq (.block 1 (.seq f19r4 (.seq f19r5 (.seq f19r6 (.block 2 (.loop f19l0)))))) f19r12)))
theorem f19l1e (C : Cfg) (s : St) : evL C f19l1 s = evL C (.seq f19r3 (.seq (.cond (.tmp 11) .skip (.exit 0)) (.seq (.block 1 (.seq f19r4 (.seq f19r5 (.seq f19r6 (.block 2 (.loop f19l0)))))) f19r12))) s := rfl
abbrev f19o13 : List (Nat × Pop) := [
  (0, ⟨(some 30), .mv (.tmp 3), none⟩),
  (1, ⟨(some 31), .bin .xor (.tmp 30) (.c (.t (.i .u32 4294967295))), none⟩),
  (2, ⟨(some 32), .cvi .i64 (.tmp 31), none⟩),
  (3, ⟨(some 2), .mv (.tmp 32), none⟩)]
abbrev f19r13 : Pc := .reg f19o13 [2] [8]
abbrev f19b : Pc := (.seq f19r0 (.seq f19r1 (.seq (.seq f19r2 (.block 0 (.loop f19l1))) (.seq f19r13 .ret))))
abbrev f19 : Pfn := ⟨1, 33, [.tmp 2], f19b⟩
def f19K : Array (List Nat) := #[[0], [0, 3], [3, 8, 9, 10], [3, 8, 9, 10, 11], [3, 5, 8, 9, 10], [3, 8, 9, 10], [3, 8, 9, 10, 18], [3, 8, 9, 10, 18, 19], [3, 6, 8, 9, 10, 18], [3, 6, 8, 9, 10, 18], [3, 8, 9, 10, 18], [3, 8, 9, 10, 18], [3, 8, 9, 10], [2]]
def f19H : Array (List Nat) := #[[], [], [], [], [], [], [], [], [], [], [], [], [], [8]]
def f19A : Ann := ⟨fun r => f19K.getD r [], fun r => f19H.getD r [], fun r i => ([] : List (Nat × Nat)).contains (r, i)⟩
theorem f19C : compF Try.prog f19A 19 = some f19 := by kernel_rfl

/-- switchboard/link.Right -/
abbrev f20o0 : List (Nat × Pop) := [
  (0, ⟨(some 1), .box 25 2 (.tmp 0), none⟩),
  (1, ⟨(some 2), .mv (.c (.t (.b false))), none⟩)]
abbrev f20r0 : Pc := .reg f20o0 [1] []
abbrev f20o1 : List (Nat × Pop) := [
  (0, ⟨(some 3), .mv (.c (.t (.i .i64 (-1)))), none⟩)]
abbrev f20r1 : Pc := .reg f20o1 [1, 3] []
abbrev f20o2 : List (Nat × Pop) := [
  (0, ⟨(some 6), .fad 1 (.tmp 1), none⟩),
  (1, ⟨(some 7), .load false 1 (.tmp 6), none⟩),
  (2, ⟨(some 8), .lenL (.tmp 7), none⟩),
  (3, ⟨(some 9), .mv (.c (.t (.i .i64 0))), none⟩)]
abbrev f20r2 : Pc := .reg f20o2 [1, 3, 7, 8, 9] []
abbrev f20o3 : List (Nat × Pop) := [
  (0, ⟨(some 10), .bin .lss (.tmp 9) (.tmp 8), none⟩)]
abbrev f20r3 : Pc := .reg f20o3 [1, 3, 7, 8, 9, 10] []
abbrev f20o4 : List (Nat × Pop) := [
  (0, ⟨(some 11), .ixS 2 (.tmp 7) (.tmp 9), none⟩),
  (1, ⟨(some 12), .load true 2 (.tmp 11), none⟩),
  (2, ⟨(some 5), .alloc 50 [(.t (.i .i64 0)), (.t (.s []))], none⟩),
  (3, ⟨none, .store 2 (.tmp 5) (.tmp 12), none⟩)]
abbrev f20r4 : Pc := .reg f20o4 [1, 3, 5, 7, 8, 9] []
abbrev f20o5 : List (Nat × Pop) := [
  (0, ⟨(some 13), .fad 0 (.tmp 5), none⟩),
  (1, ⟨(some 14), .load false 1 (.tmp 13), none⟩),
  (2, ⟨(some 15), .mv (.tmp 3), none⟩),
  (3, ⟨(some 16), .bin .leq (.tmp 14) (.tmp 15), none⟩),
  (4, ⟨(some 17), .mv (.tmp 16), none⟩),
  (5, ⟨(some 18), .fad 0 (.tmp 5), (some (17, false))⟩),
  (6, ⟨(some 19), .load false 1 (.tmp 18), (some (17, false))⟩),
  (7, ⟨(some 20), .fad 0 (.tmp 1), (some (17, false))⟩),
  (8, ⟨(some 21), .load false 1 (.tmp 20), (some (17, false))⟩),
  (9, ⟨(some 22), .bin .geq (.tmp 19) (.tmp 21), (some (17, false))⟩),
  (10, ⟨(some 23), .pick (.tmp 17) (.c (.t (.b true))) (.tmp 22), none⟩)]
abbrev f20r5 : Pc := .reg f20o5 [1, 5, 7, 8, 9, 23] []
abbrev f20o6 : List (Nat × Pop) := [
  (0, ⟨(some 2), .mv (.c (.t (.b false))), none⟩)]
abbrev f20r6 : Pc := .reg f20o6 [2] [1, 5]
abbrev f20o7 : List (Nat × Pop) := [
  (0, ⟨(some 24), .fad 0 (.tmp 5), none⟩),
  (1, ⟨(some 25), .load false 1 (.tmp 24), none⟩),
  (2, ⟨(some 3), .mv (.tmp 25), none⟩)]
abbrev f20r7 : Pc := .reg f20o7 [1, 3, 7, 8, 9] [5]
abbrev f20o8 : List (Nat × Pop) := [
  (0, ⟨(some 26), .bin .add (.tmp 9) (.c (.t (.i .i64 1))), none⟩),
  (1, ⟨(some 9), .mv (.tmp 26), none⟩)]
abbrev f20r8 : Pc := .reg f20o8 [1, 3, 7, 8, 9] []
def f20l0 : Pc := (.seq f20r3 (.seq (.cond (.tmp 10) .skip (.exit 0)) (.seq (.block 1 (.seq f20r4 (.seq (.seq f20r5 (.cond (.tmp 23) (.seq f20r6 .ret) .skip)) f20r7))) f20r8)))
theorem f20l0e (C : Cfg) (s : St) : evL C f20l0 s = evL C (.seq f20r3 (.seq (.cond (.tmp 10) .skip (.exit 0)) (.seq (.block 1 (.seq f20r4 (.seq (.seq f20r5 (.cond (.tmp 23) (.seq f20r6 .ret) .skip)) f20r7))) f20r8))) s := rfl
abbrev f20o9 : List (Nat × Pop) := [
  (0, ⟨(some 27), .fad 0 (.tmp 1), none⟩),
  (1, ⟨(some 28), .load false 1 (.tmp 27), none⟩),
  (2, ⟨(some 29), .bin .geq (.tmp 28) (.c (.t (.i .i64 0))), none⟩),
  (3, ⟨(some 30), .mv (.tmp 29), none⟩),
  (4, ⟨(some 31), .fad 0 (.tmp 1), (some (30, true))⟩),
  (5, ⟨(some 32), .load false 1 (.tmp 31), (some (30, true))⟩),
  (6, ⟨(some 33), .bin .leq (.tmp 32) (.c (.t (.i .i64 2147483647))), (some (30, true))⟩),
  (7, ⟨(some 34), .pick (.tmp 30) (.tmp 33) (.c (.t (.b false))), none⟩),
  (8, ⟨(some 35), .mv (.tmp 34), none⟩),
  (9, ⟨(some 36), .fad 1 (.tmp 1), (some (35, true))⟩),
  (10, ⟨(some 37), .load false 1 (.tmp 36), (some (35, true))⟩),
  (11, ⟨(some 38), .lenL (.tmp 37), (some (35, true))⟩),
  (12, ⟨(some 39), .bin .leq (.tmp 38) (.c (.t (.i .i64 64))), (some (35, true))⟩),
  (13, ⟨(some 40), .pick (.tmp 35) (.tmp 39) (.c (.t (.b false))), none⟩),
  (14, ⟨(some 2), .mv (.tmp 40), none⟩)]
abbrev f20r9 : Pc := .reg f20o9 [2] [1]
abbrev f20b : Pc := (.seq f20r0 (.seq f20r1 (.seq (.seq f20r2 (.block 0 (.loop f20l0))) (.seq f20r9 .ret))))
abbrev f20 : Pfn := ⟨1, 41, [.tmp 2], f20b⟩
def f20K : Array (List Nat) := #[[1], [1, 3], [1, 3, 7, 8, 9], [1, 3, 7, 8, 9, 10], [1, 3, 5, 7, 8, 9], [1, 5, 7, 8, 9, 23], [2], [1, 3, 7, 8, 9], [1, 3, 7, 8, 9], [2]]
def f20H : Array (List Nat) := #[[], [], [], [], [], [], [1, 5], [5], [], [1]]
def f20A : Ann := ⟨fun r => f20K.getD r [], fun r => f20H.getD r [], fun r i => ([] : List (Nat × Nat)).contains (r, i)⟩
theorem f20C : compF Try.prog f20A 20 = some f20 := by kernel_rfl

/-- slices.Clone[[]switchboard/link.Frame,switchboard/link.Frame] -/
abbrev f21o0 : List (Nat × Pop) := [
  (0, ⟨(some 2), .nilv 50 2, none⟩)]
abbrev f21r0 : Pc := .reg f21o0 [0] [2, 5, 7]
abbrev f21o1 : List (Nat × Pop) := [
  (0, ⟨(some 3), .mv (.tmp 0), none⟩),
  (1, ⟨(some 4), .isnilS false (.tmp 3), none⟩)]
abbrev f21r1 : Pc := .reg f21o1 [0, 4] []
abbrev f21o2 : List (Nat × Pop) := [
  (0, ⟨(some 2), .nilv 50 2, none⟩)]
abbrev f21r2 : Pc := .reg f21o2 [2] []
abbrev f21o3 : List (Nat × Pop) := [
  (0, ⟨(some 5), .bslO 50 2 [], none⟩),
  (1, ⟨(some 6), .mv (.tmp 0), none⟩),
  (2, ⟨(some 7), .app 50 2 24 (.tmp 5) (.tmp 6), none⟩),
  (3, ⟨(some 2), .mv (.tmp 7), none⟩)]
abbrev f21r3 : Pc := .reg f21o3 [2] []
abbrev f21b : Pc := (.seq f21r0 (.seq (.seq f21r1 (.cond (.tmp 4) (.seq f21r2 .ret) .skip)) (.seq f21r3 .ret)))
abbrev f21 : Pfn := ⟨1, 8, [.tmp 2], f21b⟩
def f21K : Array (List Nat) := #[[0], [0, 4], [2], [2]]
def f21H : Array (List Nat) := #[[2, 5, 7], [], [], []]
def f21A : Ann := ⟨fun r => f21K.getD r [], fun r => f21H.getD r [], fun r i => ([(3, 0), (3, 0)] : List (Nat × Nat)).contains (r, i)⟩
theorem f21C : compF Try.prog f21A 21 = some f21 := by kernel_rfl

/-- slices.DeleteFunc[[]switchboard/link.Frame,switchboard/link.Frame] -/
abbrev f22o0 : List (Nat × Pop) := [
  (0, ⟨(some 4), .nilv 50 2, none⟩)]
abbrev f22r0 : Pc := .reg f22o0 [0, 1] []
abbrev f22o1 : List (Nat × Pop) := [
  (0, ⟨(some 8), .mv (.tmp 0), none⟩),
  (1, ⟨(some 9), .mv (.tmp 1), none⟩),
  (2, ⟨(some 10), .call 28 [(.tmp 8), (.tmp 9)], none⟩),
  (3, ⟨(some 5), .mv (.tmp 10), none⟩)]
abbrev f22r1 : Pc := .reg f22o1 [0, 1, 5] []
abbrev f22o2 : List (Nat × Pop) := [
  (0, ⟨(some 11), .mv (.tmp 5), none⟩),
  (1, ⟨(some 12), .bin .eql (.tmp 11) (.c (.t (.i .i64 (-1)))), none⟩)]
abbrev f22r2 : Pc := .reg f22o2 [0, 1, 5, 12] []
abbrev f22o3 : List (Nat × Pop) := [
  (0, ⟨(some 13), .mv (.tmp 0), none⟩),
  (1, ⟨(some 4), .mv (.tmp 13), none⟩)]
abbrev f22r3 : Pc := .reg f22o3 [4] []
abbrev f22o4 : List (Nat × Pop) := [
  (0, ⟨(some 14), .mv (.tmp 5), none⟩),
  (1, ⟨(some 15), .bin .add (.tmp 14) (.c (.t (.i .i64 1))), none⟩),
  (2, ⟨(some 6), .mv (.tmp 15), none⟩)]
abbrev f22r4 : Pc := .reg f22o4 [0, 1, 5, 6] []
abbrev f22o5 : List (Nat × Pop) := [
  (0, ⟨(some 16), .mv (.tmp 6), none⟩),
  (1, ⟨(some 17), .mv (.tmp 0), none⟩),
  (2, ⟨(some 18), .lenL (.tmp 17), none⟩),
  (3, ⟨(some 19), .bin .lss (.tmp 16) (.tmp 18), none⟩)]
abbrev f22r5 : Pc := .reg f22o5 [0, 1, 5, 6, 19] []
abbrev f22o7 : List (Nat × Pop) := [
  (0, ⟨(some 22), .mv (.tmp 0), none⟩),
  (1, ⟨(some 23), .mv (.tmp 6), none⟩),
  (2, ⟨(some 24), .ixS 2 (.tmp 22) (.tmp 23), none⟩),
  (3, ⟨(some 25), .load true 2 (.tmp 24), none⟩),
  (4, ⟨(some 7), .alloc 50 [(.t (.i .i64 0)), (.t (.s []))], none⟩),
  (5, ⟨none, .store 2 (.tmp 7) (.tmp 25), none⟩)]
abbrev f22r7 : Pc := .reg f22o7 [0, 1, 5, 6, 7] []
abbrev f22o8 : List (Nat × Pop) := [
  (0, ⟨(some 26), .mv (.tmp 1), none⟩),
  (1, ⟨(some 27), .load true 2 (.tmp 7), none⟩),
  (2, ⟨(some 28), .callv (.tmp 26) [(.tmp 27)], none⟩),
  (3, ⟨(some 29), .un .not (.tmp 28), none⟩)]
abbrev f22r8 : Pc := .reg f22o8 [0, 1, 5, 6, 7, 29] []
abbrev f22o9 : List (Nat × Pop) := [
  (0, ⟨(some 30), .mv (.tmp 0), none⟩),
  (1, ⟨(some 31), .mv (.tmp 5), none⟩),
  (2, ⟨(some 32), .load true 2 (.tmp 7), none⟩),
  (3, ⟨(some 33), .ixS 2 (.tmp 30) (.tmp 31), none⟩),
  (4, ⟨none, .store 2 (.tmp 33) (.tmp 32), none⟩)]
abbrev f22r9 : Pc := .reg f22o9 [0, 1, 5, 6] []
abbrev f22o10 : List (Nat × Pop) := [
  (0, ⟨(some 34), .mv (.tmp 5), none⟩),
  (1, ⟨(some 35), .bin .add (.tmp 34) (.c (.t (.i .i64 1))), none⟩),
  (2, ⟨(some 5), .mv (.tmp 35), none⟩)]
abbrev f22r10 : Pc := .reg f22o10 [0, 1, 5, 6] []
abbrev f22o6 : List (Nat × Pop) := [
  (0, ⟨(some 20), .mv (.tmp 6), none⟩),
  (1, ⟨(some 21), .bin .add (.tmp 20) (.c (.t (.i .i64 1))), none⟩),
  (2, ⟨(some 6), .mv (.tmp 21), none⟩)]
abbrev f22r6 : Pc := .reg f22o6 [0, 1, 5, 6] []
def f22l0 : Pc := (.seq (.seq f22r5 (.cond (.tmp 19) .skip (.exit 0))) (.seq (.block 1 (.seq f22r7 (.seq f22r8 (.cond (.tmp 29) (.seq f22r9 f22r10) .skip)))) f22r6))
theorem f22l0e (C : Cfg) (s : St) : evL C f22l0 s = evL C (.seq (.seq f22r5 (.cond (.tmp 19) .skip (.exit 0))) (.seq (.block 1 (.seq f22r7 (.seq f22r8 (.cond (.tmp 29) (.seq f22r9 f22r10) .skip)))) f22r6)) s := rfl
abbrev f22o11 : List (Nat × Pop) := [
  (0, ⟨(some 36), .mv (.tmp 0), none⟩),
  (1, ⟨(some 37), .mv (.tmp 5), none⟩),
  (2, ⟨(some 38), .sls 2 (.tmp 36) (some (.tmp 37)) none, none⟩),
  (3, ⟨none, .clr 2 (.tmp 38), none⟩)]
abbrev f22r11 : Pc := .reg f22o11 [0, 5] []
abbrev f22o12 : List (Nat × Pop) := [
  (0, ⟨(some 39), .mv (.tmp 0), none⟩),
  (1, ⟨(some 40), .mv (.tmp 5), none⟩),
  (2, ⟨(some 41), .sls 2 (.tmp 39) none (some (.tmp 40)), none⟩),
  (3, ⟨(some 4), .mv (.tmp 41), none⟩)]
abbrev f22r12 : Pc := .reg f22o12 [4] []
abbrev f22b : Pc := (.seq f22r0 (.seq f22r1 (.seq (.seq f22r2 (.cond (.tmp 12) (.seq f22r3 .ret) .skip)) (.seq (.seq f22r4 (.block 0 (.loop f22l0))) (.seq f22r11 (.seq f22r12 .ret))))))
abbrev f22 : Pfn := ⟨2, 42, [.tmp 4], f22b⟩
def f22K : Array (List Nat) := #[[0, 1], [0, 1, 5], [0, 1, 5, 12], [4], [0, 1, 5, 6], [0, 1, 5, 6, 19], [0, 1, 5, 6], [0, 1, 5, 6, 7], [0, 1, 5, 6, 7, 29], [0, 1, 5, 6], [0, 1, 5, 6], [0, 5], [4]]
def f22H : Array (List Nat) := #[[], [], [], [], [], [], [], [], [], [], [], [], []]
def f22A : Ann := ⟨fun r => f22K.getD r [], fun r => f22H.getD r [], fun r i => ([] : List (Nat × Nat)).contains (r, i)⟩
theorem f22C : compF Try.prog f22A 22 = some f22 := by kernel_rfl

/-- switchboard/link.Told$1 -/
abbrev f23o0 : List (Nat × Pop) := [
  (0, ⟨(some 2), .box 50 2 (.tmp 0), none⟩),
  (1, ⟨(some 3), .mv (.c (.t (.b false))), none⟩)]
abbrev f23r0 : Pc := .reg f23o0 [1, 2] []
abbrev f23o1 : List (Nat × Pop) := [
  (0, ⟨(some 4), .fad 0 (.tmp 2), none⟩),
  (1, ⟨(some 5), .load false 1 (.tmp 4), none⟩),
  (2, ⟨(some 6), .load false 1 (.tmp 1), none⟩),
  (3, ⟨(some 7), .bin .eql (.tmp 5) (.tmp 6), none⟩),
  (4, ⟨(some 3), .mv (.tmp 7), none⟩)]
abbrev f23r1 : Pc := .reg f23o1 [3] []
abbrev f23b : Pc := (.seq f23r0 (.seq f23r1 .ret))
abbrev f23 : Pfn := ⟨2, 8, [.tmp 3], f23b⟩
def f23K : Array (List Nat) := #[[1, 2], [3]]
def f23H : Array (List Nat) := #[[], []]
def f23A : Ann := ⟨fun r => f23K.getD r [], fun r => f23H.getD r [], fun r i => ([] : List (Nat × Nat)).contains (r, i)⟩
theorem f23C : compF Try.prog f23A 23 = some f23 := by kernel_rfl

/-- switchboard/window.Right -/
abbrev f24o0 : List (Nat × Pop) := [
  (0, ⟨(some 1), .box 28 2 (.tmp 0), none⟩),
  (1, ⟨(some 2), .mv (.c (.t (.b false))), none⟩)]
abbrev f24r0 : Pc := .reg f24o0 [1] []
abbrev f24o1 : List (Nat × Pop) := [
  (0, ⟨(some 6), .fad 0 (.tmp 1), none⟩),
  (1, ⟨(some 7), .load false 1 (.tmp 6), none⟩),
  (2, ⟨(some 8), .bin .sub (.tmp 7) (.c (.t (.i .i64 1))), none⟩),
  (3, ⟨(some 3), .mv (.tmp 8), none⟩)]
abbrev f24r1 : Pc := .reg f24o1 [1, 3] []
abbrev f24o2 : List (Nat × Pop) := [
  (0, ⟨(some 9), .fad 1 (.tmp 1), none⟩),
  (1, ⟨(some 10), .load false 1 (.tmp 9), none⟩),
  (2, ⟨(some 11), .lenL (.tmp 10), none⟩),
  (3, ⟨(some 12), .mv (.c (.t (.i .i64 0))), none⟩)]
abbrev f24r2 : Pc := .reg f24o2 [1, 3, 10, 11, 12] []
abbrev f24o3 : List (Nat × Pop) := [
  (0, ⟨(some 13), .bin .lss (.tmp 12) (.tmp 11), none⟩)]
abbrev f24r3 : Pc := .reg f24o3 [1, 3, 10, 11, 12, 13] []
abbrev f24o4 : List (Nat × Pop) := [
  (0, ⟨(some 14), .ixS 1 (.tmp 10) (.tmp 12), none⟩),
  (1, ⟨(some 15), .load false 1 (.tmp 14), none⟩),
  (2, ⟨(some 5), .mv (.tmp 15), none⟩)]
abbrev f24r4 : Pc := .reg f24o4 [1, 3, 5, 10, 11, 12] []
abbrev f24o5 : List (Nat × Pop) := [
  (0, ⟨(some 16), .mv (.tmp 5), none⟩),
  (1, ⟨(some 17), .mv (.tmp 3), none⟩),
  (2, ⟨(some 18), .bin .leq (.tmp 16) (.tmp 17), none⟩),
  (3, ⟨(some 19), .mv (.tmp 18), none⟩),
  (4, ⟨(some 20), .mv (.tmp 5), (some (19, false))⟩),
  (5, ⟨(some 21), .bin .gtr (.tmp 20) (.c (.t (.i .i64 2147483647))), (some (19, false))⟩),
  (6, ⟨(some 22), .pick (.tmp 19) (.c (.t (.b true))) (.tmp 21), none⟩)]
abbrev f24r5 : Pc := .reg f24o5 [1, 5, 10, 11, 12, 22] []
abbrev f24o6 : List (Nat × Pop) := [
  (0, ⟨(some 2), .mv (.c (.t (.b false))), none⟩)]
abbrev f24r6 : Pc := .reg f24o6 [2] [1]
abbrev f24o7 : List (Nat × Pop) := [
  (0, ⟨(some 23), .mv (.tmp 5), none⟩),
  (1, ⟨(some 3), .mv (.tmp 23), none⟩)]
abbrev f24r7 : Pc := .reg f24o7 [1, 3, 10, 11, 12] []
abbrev f24o8 : List (Nat × Pop) := [
  (0, ⟨(some 24), .bin .add (.tmp 12) (.c (.t (.i .i64 1))), none⟩),
  (1, ⟨(some 12), .mv (.tmp 24), none⟩)]
abbrev f24r8 : Pc := .reg f24o8 [1, 3, 10, 11, 12] []
def f24l0 : Pc := (.seq f24r3 (.seq (.cond (.tmp 13) .skip (.exit 0)) (.seq (.block 1 (.seq f24r4 (.seq (.seq f24r5 (.cond (.tmp 22) (.seq f24r6 .ret) .skip)) f24r7))) f24r8)))
theorem f24l0e (C : Cfg) (s : St) : evL C f24l0 s = evL C (.seq f24r3 (.seq (.cond (.tmp 13) .skip (.exit 0)) (.seq (.block 1 (.seq f24r4 (.seq (.seq f24r5 (.cond (.tmp 22) (.seq f24r6 .ret) .skip)) f24r7))) f24r8))) s := rfl
abbrev f24o9 : List (Nat × Pop) := [
  (0, ⟨(some 25), .fad 0 (.tmp 1), none⟩),
  (1, ⟨(some 26), .load false 1 (.tmp 25), none⟩),
  (2, ⟨(some 27), .bin .geq (.tmp 26) (.c (.t (.i .i64 0))), none⟩),
  (3, ⟨(some 28), .mv (.tmp 27), none⟩),
  (4, ⟨(some 29), .fad 0 (.tmp 1), (some (28, true))⟩),
  (5, ⟨(some 30), .load false 1 (.tmp 29), (some (28, true))⟩),
  (6, ⟨(some 31), .bin .leq (.tmp 30) (.c (.t (.i .i64 2147483647))), (some (28, true))⟩),
  (7, ⟨(some 32), .pick (.tmp 28) (.tmp 31) (.c (.t (.b false))), none⟩),
  (8, ⟨(some 33), .mv (.tmp 32), none⟩),
  (9, ⟨(some 34), .fad 1 (.tmp 1), (some (33, true))⟩),
  (10, ⟨(some 35), .load false 1 (.tmp 34), (some (33, true))⟩),
  (11, ⟨(some 36), .lenL (.tmp 35), (some (33, true))⟩),
  (12, ⟨(some 37), .bin .leq (.tmp 36) (.c (.t (.i .i64 32))), (some (33, true))⟩),
  (13, ⟨(some 38), .pick (.tmp 33) (.tmp 37) (.c (.t (.b false))), none⟩),
  (14, ⟨(some 2), .mv (.tmp 38), none⟩)]
abbrev f24r9 : Pc := .reg f24o9 [2] [1]
abbrev f24b : Pc := (.seq f24r0 (.seq f24r1 (.seq (.seq f24r2 (.block 0 (.loop f24l0))) (.seq f24r9 .ret))))
abbrev f24 : Pfn := ⟨1, 39, [.tmp 2], f24b⟩
def f24K : Array (List Nat) := #[[1], [1, 3], [1, 3, 10, 11, 12], [1, 3, 10, 11, 12, 13], [1, 3, 5, 10, 11, 12], [1, 5, 10, 11, 12, 22], [2], [1, 3, 10, 11, 12], [1, 3, 10, 11, 12], [2]]
def f24H : Array (List Nat) := #[[], [], [], [], [], [], [1], [], [], [1]]
def f24A : Ann := ⟨fun r => f24K.getD r [], fun r => f24H.getD r [], fun r i => ([] : List (Nat × Nat)).contains (r, i)⟩
theorem f24C : compF Try.prog f24A 24 = some f24 := by kernel_rfl

/-- slices.Contains[[]int,int] -/
abbrev f25o0 : List (Nat × Pop) := [
  (0, ⟨(some 4), .mv (.c (.t (.b false))), none⟩)]
abbrev f25r0 : Pc := .reg f25o0 [0, 1] []
abbrev f25o1 : List (Nat × Pop) := [
  (0, ⟨(some 5), .mv (.tmp 0), none⟩),
  (1, ⟨(some 6), .mv (.tmp 1), none⟩),
  (2, ⟨(some 7), .call 29 [(.tmp 5), (.tmp 6)], none⟩),
  (3, ⟨(some 8), .bin .geq (.tmp 7) (.c (.t (.i .i64 0))), none⟩),
  (4, ⟨(some 4), .mv (.tmp 8), none⟩)]
abbrev f25r1 : Pc := .reg f25o1 [4] []
abbrev f25b : Pc := (.seq f25r0 (.seq f25r1 .ret))
abbrev f25 : Pfn := ⟨2, 9, [.tmp 4], f25b⟩
def f25K : Array (List Nat) := #[[0, 1], [4]]
def f25H : Array (List Nat) := #[[], []]
def f25A : Ann := ⟨fun r => f25K.getD r [], fun r => f25H.getD r [], fun r i => ([] : List (Nat × Nat)).contains (r, i)⟩
theorem f25C : compF Try.prog f25A 25 = some f25 := by kernel_rfl

/-- slices.Clone[[]int,int] -/
abbrev f26o0 : List (Nat × Pop) := [
  (0, ⟨(some 2), .nilv 3 1, none⟩)]
abbrev f26r0 : Pc := .reg f26o0 [0] [2, 5, 7]
abbrev f26o1 : List (Nat × Pop) := [
  (0, ⟨(some 3), .mv (.tmp 0), none⟩),
  (1, ⟨(some 4), .isnilS false (.tmp 3), none⟩)]
abbrev f26r1 : Pc := .reg f26o1 [0, 4] []
abbrev f26o2 : List (Nat × Pop) := [
  (0, ⟨(some 2), .nilv 3 1, none⟩)]
abbrev f26r2 : Pc := .reg f26o2 [2] []
abbrev f26o3 : List (Nat × Pop) := [
  (0, ⟨(some 5), .bslO 3 1 [], none⟩),
  (1, ⟨(some 6), .mv (.tmp 0), none⟩),
  (2, ⟨(some 7), .app 3 1 8 (.tmp 5) (.tmp 6), none⟩),
  (3, ⟨(some 2), .mv (.tmp 7), none⟩)]
abbrev f26r3 : Pc := .reg f26o3 [2] []
abbrev f26b : Pc := (.seq f26r0 (.seq (.seq f26r1 (.cond (.tmp 4) (.seq f26r2 .ret) .skip)) (.seq f26r3 .ret)))
abbrev f26 : Pfn := ⟨1, 8, [.tmp 2], f26b⟩
def f26K : Array (List Nat) := #[[0], [0, 4], [2], [2]]
def f26H : Array (List Nat) := #[[2, 5, 7], [], [], []]
def f26A : Ann := ⟨fun r => f26K.getD r [], fun r => f26H.getD r [], fun r i => ([(3, 0), (3, 0)] : List (Nat × Nat)).contains (r, i)⟩
theorem f26C : compF Try.prog f26A 26 = some f26 := by kernel_rfl

/-- slices.IndexFunc[[]switchboard/link.Frame,switchboard/link.Frame] -/
abbrev f28o0 : List (Nat × Pop) := [
  (0, ⟨(some 4), .mv (.c (.t (.i .i64 0))), none⟩)]
abbrev f28r0 : Pc := .reg f28o0 [0, 1] []
abbrev f28o1 : List (Nat × Pop) := [
  (0, ⟨(some 6), .mv (.tmp 0), none⟩),
  (1, ⟨(some 7), .lenL (.tmp 6), none⟩),
  (2, ⟨(some 8), .mv (.c (.t (.i .i64 0))), none⟩)]
abbrev f28r1 : Pc := .reg f28o1 [0, 1, 7, 8] []
abbrev f28o2 : List (Nat × Pop) := [
  (0, ⟨(some 9), .bin .lss (.tmp 8) (.tmp 7), none⟩)]
abbrev f28r2 : Pc := .reg f28o2 [0, 1, 7, 8, 9] []
abbrev f28o3 : List (Nat × Pop) := [
  (0, ⟨(some 10), .mv (.tmp 8), none⟩),
  (1, ⟨(some 5), .mv (.tmp 10), none⟩)]
abbrev f28r3 : Pc := .reg f28o3 [0, 1, 5, 7, 8] []
abbrev f28o4 : List (Nat × Pop) := [
  (0, ⟨(some 11), .mv (.tmp 1), none⟩),
  (1, ⟨(some 12), .mv (.tmp 0), none⟩),
  (2, ⟨(some 13), .mv (.tmp 5), none⟩),
  (3, ⟨(some 14), .ixS 2 (.tmp 12) (.tmp 13), none⟩),
  (4, ⟨(some 15), .load true 2 (.tmp 14), none⟩),
  (5, ⟨(some 16), .callv (.tmp 11) [(.tmp 15)], none⟩)]
abbrev f28r4 : Pc := .reg f28o4 [0, 1, 5, 7, 8, 16] []
abbrev f28o5 : List (Nat × Pop) := [
  (0, ⟨(some 17), .mv (.tmp 5), none⟩),
  (1, ⟨(some 4), .mv (.tmp 17), none⟩)]
abbrev f28r5 : Pc := .reg f28o5 [4] []
abbrev f28o6 : List (Nat × Pop) := [
  (0, ⟨(some 18), .bin .add (.tmp 8) (.c (.t (.i .i64 1))), none⟩),
  (1, ⟨(some 8), .mv (.tmp 18), none⟩)]
abbrev f28r6 : Pc := .reg f28o6 [0, 1, 7, 8] []
def f28l0 : Pc := (.seq f28r2 (.seq (.cond (.tmp 9) .skip (.exit 0)) (.seq (.block 1 (.seq f28r3 (.seq f28r4 (.cond (.tmp 16) (.seq f28r5 .ret) .skip)))) f28r6)))
theorem f28l0e (C : Cfg) (s : St) : evL C f28l0 s = evL C (.seq f28r2 (.seq (.cond (.tmp 9) .skip (.exit 0)) (.seq (.block 1 (.seq f28r3 (.seq f28r4 (.cond (.tmp 16) (.seq f28r5 .ret) .skip)))) f28r6))) s := rfl
abbrev f28o7 : List (Nat × Pop) := [
  (0, ⟨(some 4), .mv (.c (.t (.i .i64 (-1)))), none⟩)]
abbrev f28r7 : Pc := .reg f28o7 [4] []
abbrev f28b : Pc := (.seq f28r0 (.seq (.seq f28r1 (.block 0 (.loop f28l0))) (.seq f28r7 .ret)))
abbrev f28 : Pfn := ⟨2, 19, [.tmp 4], f28b⟩
def f28K : Array (List Nat) := #[[0, 1], [0, 1, 7, 8], [0, 1, 7, 8, 9], [0, 1, 5, 7, 8], [0, 1, 5, 7, 8, 16], [4], [0, 1, 7, 8], [4]]
def f28H : Array (List Nat) := #[[], [], [], [], [], [], [], []]
def f28A : Ann := ⟨fun r => f28K.getD r [], fun r => f28H.getD r [], fun r i => ([] : List (Nat × Nat)).contains (r, i)⟩
theorem f28C : compF Try.prog f28A 28 = some f28 := by kernel_rfl

/-- slices.Index[[]int,int] -/
abbrev f29o0 : List (Nat × Pop) := [
  (0, ⟨(some 4), .mv (.c (.t (.i .i64 0))), none⟩)]
abbrev f29r0 : Pc := .reg f29o0 [0, 1] []
abbrev f29o1 : List (Nat × Pop) := [
  (0, ⟨(some 6), .mv (.tmp 0), none⟩),
  (1, ⟨(some 7), .lenL (.tmp 6), none⟩),
  (2, ⟨(some 8), .mv (.c (.t (.i .i64 0))), none⟩)]
abbrev f29r1 : Pc := .reg f29o1 [0, 1, 7, 8] []
abbrev f29o2 : List (Nat × Pop) := [
  (0, ⟨(some 9), .bin .lss (.tmp 8) (.tmp 7), none⟩)]
abbrev f29r2 : Pc := .reg f29o2 [0, 1, 7, 8, 9] []
abbrev f29o3 : List (Nat × Pop) := [
  (0, ⟨(some 10), .mv (.tmp 8), none⟩),
  (1, ⟨(some 5), .mv (.tmp 10), none⟩)]
abbrev f29r3 : Pc := .reg f29o3 [0, 1, 5, 7, 8] []
abbrev f29o4 : List (Nat × Pop) := [
  (0, ⟨(some 11), .mv (.tmp 1), none⟩),
  (1, ⟨(some 12), .mv (.tmp 0), none⟩),
  (2, ⟨(some 13), .mv (.tmp 5), none⟩),
  (3, ⟨(some 14), .ixS 1 (.tmp 12) (.tmp 13), none⟩),
  (4, ⟨(some 15), .load false 1 (.tmp 14), none⟩),
  (5, ⟨(some 16), .bin .eql (.tmp 11) (.tmp 15), none⟩)]
abbrev f29r4 : Pc := .reg f29o4 [0, 1, 5, 7, 8, 16] []
abbrev f29o5 : List (Nat × Pop) := [
  (0, ⟨(some 17), .mv (.tmp 5), none⟩),
  (1, ⟨(some 4), .mv (.tmp 17), none⟩)]
abbrev f29r5 : Pc := .reg f29o5 [4] []
abbrev f29o6 : List (Nat × Pop) := [
  (0, ⟨(some 18), .bin .add (.tmp 8) (.c (.t (.i .i64 1))), none⟩),
  (1, ⟨(some 8), .mv (.tmp 18), none⟩)]
abbrev f29r6 : Pc := .reg f29o6 [0, 1, 7, 8] []
def f29l0 : Pc := (.seq f29r2 (.seq (.cond (.tmp 9) .skip (.exit 0)) (.seq (.block 1 (.seq f29r3 (.seq f29r4 (.cond (.tmp 16) (.seq f29r5 .ret) .skip)))) f29r6)))
theorem f29l0e (C : Cfg) (s : St) : evL C f29l0 s = evL C (.seq f29r2 (.seq (.cond (.tmp 9) .skip (.exit 0)) (.seq (.block 1 (.seq f29r3 (.seq f29r4 (.cond (.tmp 16) (.seq f29r5 .ret) .skip)))) f29r6))) s := rfl
abbrev f29o7 : List (Nat × Pop) := [
  (0, ⟨(some 4), .mv (.c (.t (.i .i64 (-1)))), none⟩)]
abbrev f29r7 : Pc := .reg f29o7 [4] []
abbrev f29b : Pc := (.seq f29r0 (.seq (.seq f29r1 (.block 0 (.loop f29l0))) (.seq f29r7 .ret)))
abbrev f29 : Pfn := ⟨2, 19, [.tmp 4], f29b⟩
def f29K : Array (List Nat) := #[[0, 1], [0, 1, 7, 8], [0, 1, 7, 8, 9], [0, 1, 5, 7, 8], [0, 1, 5, 7, 8, 16], [4], [0, 1, 7, 8], [4]]
def f29H : Array (List Nat) := #[[], [], [], [], [], [], [], []]
def f29A : Ann := ⟨fun r => f29K.getD r [], fun r => f29H.getD r [], fun r i => ([] : List (Nat × Nat)).contains (r, i)⟩
theorem f29C : compF Try.prog f29A 29 = some f29 := by kernel_rfl


end Go.Proofs.Ytccnadleegcobaa.Pv
