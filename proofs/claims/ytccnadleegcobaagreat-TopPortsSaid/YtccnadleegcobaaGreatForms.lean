/- The functions' forms, as the pure evaluator takes them; each is what the program's code gives (kernel_rfl). -/
import Derived.Test.YtccnadleegcobaaGreatPevA
import Derived.Test.YtccnadleegcobaaGreatPevC
import Derived.Test.YtccnadleegcobaaGreatProg
import Derived.KernelRfl
namespace Go.Proofs.YtccnadleegcobaaGreat.Pv
open Go Go.Pev
/-- switchboard/switchboardtop.TopPorts -/
abbrev f3o0 : List (Nat × Pop) := [
  (0, ⟨(some 4), .box 24 2 (.tmp 0), none⟩),
  (1, ⟨(some 8), .mv (.c (.t (.b false))), none⟩)]
abbrev f3r0 : Pc := .reg f3o0 [1, 2, 3, 4] []
abbrev f3o1 : List (Nat × Pop) := [
  (0, ⟨(some 39), .fad 0 (.tmp 4), none⟩),
  (1, ⟨(some 40), .load false 1 (.tmp 39), none⟩),
  (2, ⟨(some 41), .call 4 [(.tmp 40)], none⟩),
  (3, ⟨(some 42), .un .not (.tmp 41), none⟩),
  (4, ⟨(some 43), .mv (.tmp 42), none⟩),
  (5, ⟨(some 44), .fad 1 (.tmp 4), (some (43, false))⟩),
  (6, ⟨(some 45), .load false 1 (.tmp 44), (some (43, false))⟩),
  (7, ⟨(some 46), .call 4 [(.tmp 45)], (some (43, false))⟩),
  (8, ⟨(some 47), .un .not (.tmp 46), (some (43, false))⟩),
  (9, ⟨(some 48), .pick (.tmp 43) (.c (.t (.b true))) (.tmp 47), none⟩),
  (10, ⟨(some 49), .mv (.tmp 48), none⟩),
  (11, ⟨(some 50), .load true 2 (.tmp 4), (some (49, false))⟩),
  (12, ⟨(some 51), .mv (.tmp 1), (some (49, false))⟩),
  (13, ⟨(some 52), .call 5 [(.tmp 50), (.tmp 51)], (some (49, false))⟩),
  (14, ⟨(some 53), .un .not (.tmp 52), (some (49, false))⟩),
  (15, ⟨(some 54), .pick (.tmp 49) (.c (.t (.b true))) (.tmp 53), none⟩)]
abbrev f3r1 : Pc := .reg f3o1 [1, 2, 3, 4, 54] []
abbrev f3o2 : List (Nat × Pop) := [
  (0, ⟨(some 55), .call 6 [], none⟩),
  (1, ⟨(some 8), .mv (.tmp 55), none⟩)]
abbrev f3r2 : Pc := .reg f3o2 [8] [4]
abbrev f3o3 : List (Nat × Pop) := [
  (0, ⟨(some 57), .load true 2 (.tmp 4), none⟩),
  (1, ⟨(some 58), .mv (.tmp 1), none⟩),
  (2, ⟨(some 59), .call 7 [(.tmp 57), (.tmp 58)], none⟩),
  (3, ⟨(some 56), .mv (.tmp 59), none⟩),
  (4, ⟨(some 60), .ext 0 (.tmp 56), none⟩),
  (5, ⟨(some 61), .ext 1 (.tmp 56), none⟩),
  (6, ⟨(some 9), .mv (.tmp 60), none⟩),
  (7, ⟨(some 10), .mv (.tmp 61), none⟩)]
abbrev f3r3 : Pc := .reg f3o3 [1, 2, 3, 4, 9] []
abbrev f3o4 : List (Nat × Pop) := [
  (0, ⟨(some 63), .mv (.tmp 9), none⟩),
  (1, ⟨(some 64), .mv (.tmp 2), none⟩),
  (2, ⟨(some 65), .bin .rem (.tmp 64) (.c (.t (.i .u8 33))), none⟩),
  (3, ⟨(some 66), .cvi .i64 (.tmp 65), none⟩),
  (4, ⟨(some 67), .bin .add (.c (.t (.i .i64 32))) (.tmp 66), none⟩),
  (5, ⟨(some 68), .call 8 [(.tmp 63), (.tmp 67)], none⟩),
  (6, ⟨(some 62), .mv (.tmp 68), none⟩),
  (7, ⟨(some 69), .ext 0 (.tmp 62), none⟩),
  (8, ⟨(some 70), .ext 1 (.tmp 62), none⟩),
  (9, ⟨(some 11), .mv (.tmp 69), none⟩),
  (10, ⟨(some 12), .mv (.tmp 70), none⟩)]
abbrev f3r4 : Pc := .reg f3o4 [1, 3, 4, 11, 12] []
abbrev f3o5 : List (Nat × Pop) := [
  (0, ⟨(some 13), .alloc 42 [(.t (.i .i64 0)), .nl, (.t (.i .i64 0)), .nl], none⟩),
  (1, ⟨(some 14), .alloc 42 [(.t (.i .i64 0)), .nl, (.t (.i .i64 0)), .nl], none⟩)]
abbrev f3r5 : Pc := .reg f3o5 [1, 3, 4, 11, 12, 13, 14] []
abbrev f3o6 : List (Nat × Pop) := [
  (0, ⟨(some 71), .mv (.tmp 11), none⟩),
  (1, ⟨(some 72), .lenL (.tmp 71), none⟩),
  (2, ⟨(some 73), .mks 9 1 16 [(.s [])] (.tmp 72) (.tmp 72), none⟩),
  (3, ⟨(some 15), .mv (.tmp 73), none⟩)]
abbrev f3r6 : Pc := .reg f3o6 [1, 3, 4, 11, 12, 13, 14, 15] []
abbrev f3o7 : List (Nat × Pop) := [
  (0, ⟨(some 74), .mv (.tmp 11), none⟩),
  (1, ⟨(some 75), .lenL (.tmp 74), none⟩),
  (2, ⟨(some 76), .mks 3 1 8 [(.i .i64 0)] (.tmp 75) (.tmp 75), none⟩),
  (3, ⟨(some 16), .mv (.tmp 76), none⟩)]
abbrev f3r7 : Pc := .reg f3o7 [1, 3, 4, 11, 12, 13, 14, 15, 16] []
abbrev f3o8 : List (Nat × Pop) := [
  (0, ⟨(some 77), .mv (.tmp 11), none⟩),
  (1, ⟨(some 78), .lenL (.tmp 77), none⟩),
  (2, ⟨(some 79), .mv (.c (.t (.i .i64 0))), none⟩)]
abbrev f3r8 : Pc := .reg f3o8 [1, 3, 4, 11, 12, 13, 14, 15, 16, 77, 78, 79] []
abbrev f3o9 : List (Nat × Pop) := [
  (0, ⟨(some 80), .bin .lss (.tmp 79) (.tmp 78), none⟩)]
abbrev f3r9 : Pc := .reg f3o9 [1, 3, 4, 11, 12, 13, 14, 15, 16, 77, 78, 79, 80] []
abbrev f3o10 : List (Nat × Pop) := [
  (0, ⟨(some 81), .mv (.tmp 79), none⟩),
  (1, ⟨(some 82), .ixS 1 (.tmp 77) (.tmp 79), none⟩),
  (2, ⟨(some 83), .load false 1 (.tmp 82), none⟩),
  (3, ⟨(some 17), .mv (.tmp 81), none⟩),
  (4, ⟨(some 18), .mv (.tmp 83), none⟩)]
abbrev f3r10 : Pc := .reg f3o10 [1, 3, 4, 11, 12, 13, 14, 15, 16, 17, 18, 77, 78, 79] []
abbrev f3o11 : List (Nat × Pop) := [
  (0, ⟨(some 85), .load true 4 (.tmp 13), none⟩),
  (1, ⟨(some 86), .mv (.tmp 17), none⟩),
  (2, ⟨(some 87), .cvi .u8 (.tmp 86), none⟩),
  (3, ⟨(some 88), .bslT 1 [(.tmp 87)], none⟩),
  (4, ⟨(some 89), .cvbs (.tmp 88), none⟩),
  (5, ⟨(some 90), .mv (.tmp 18), none⟩),
  (6, ⟨(some 91), .bin .add (.tmp 89) (.tmp 90), none⟩),
  (7, ⟨(some 92), .call 9 [(.tmp 85), (.tmp 91)], none⟩),
  (8, ⟨(some 84), .mv (.tmp 92), none⟩),
  (9, ⟨(some 93), .ext 0 (.tmp 84), none⟩),
  (10, ⟨(some 94), .ext 1 (.tmp 84), none⟩),
  (11, ⟨(some 95), .ext 2 (.tmp 84), none⟩),
  (12, ⟨(some 19), .alloc 42 [(.t (.i .i64 0)), .nl, (.t (.i .i64 0)), .nl], none⟩),
  (13, ⟨none, .store 4 (.tmp 19) (.tmp 93), none⟩),
  (14, ⟨(some 20), .mv (.tmp 94), none⟩),
  (15, ⟨(some 21), .mv (.tmp 95), none⟩)]
abbrev f3r11 : Pc := .reg f3o11 [1, 3, 4, 11, 12, 13, 14, 15, 16, 17, 19, 20, 21, 77, 78, 79] []
abbrev f3o12 : List (Nat × Pop) := [
  (0, ⟨(some 96), .mv (.tmp 21), none⟩),
  (1, ⟨(some 97), .bin .neq (.tmp 96) (.c (.t (.i .i64 0))), none⟩)]
abbrev f3r12 : Pc := .reg f3o12 [1, 3, 4, 11, 12, 13, 14, 15, 16, 17, 19, 20, 77, 78, 79, 97] []
abbrev f3o13 : List (Nat × Pop) := [
  (0, ⟨(some 8), .mv (.c (.t (.b false))), none⟩)]
abbrev f3r13 : Pc := .reg f3o13 [8] [4, 13, 14, 19, 73, 76]
abbrev f3o14 : List (Nat × Pop) := [
  (0, ⟨(some 98), .load true 4 (.tmp 19), none⟩),
  (1, ⟨none, .store 4 (.tmp 13) (.tmp 98), none⟩)]
abbrev f3r14 : Pc := .reg f3o14 [1, 3, 4, 11, 12, 13, 14, 15, 16, 17, 20, 77, 78, 79] [19]
abbrev f3o15 : List (Nat × Pop) := [
  (0, ⟨(some 99), .mv (.tmp 3), none⟩),
  (1, ⟨(some 100), .mv (.tmp 17), none⟩),
  (2, ⟨(some 101), .bin .rem (.tmp 100) (.c (.t (.i .i64 64))), none⟩),
  (3, ⟨(some 102), .bin .shr (.tmp 99) (.tmp 101), none⟩),
  (4, ⟨(some 103), .bin .and (.tmp 102) (.c (.t (.i .u64 1))), none⟩),
  (5, ⟨(some 104), .bin .eql (.tmp 103) (.c (.t (.i .u64 1))), none⟩)]
abbrev f3r15 : Pc := .reg f3o15 [1, 3, 4, 11, 12, 13, 14, 15, 16, 20, 77, 78, 79, 104] []
abbrev f3o16 : List (Nat × Pop) := [
  (0, ⟨(some 106), .load true 4 (.tmp 14), none⟩),
  (1, ⟨(some 107), .mv (.tmp 20), none⟩),
  (2, ⟨(some 108), .call 10 [(.tmp 106), (.tmp 107)], none⟩),
  (3, ⟨(some 105), .mv (.tmp 108), none⟩),
  (4, ⟨(some 109), .ext 0 (.tmp 105), none⟩),
  (5, ⟨(some 110), .ext 1 (.tmp 105), none⟩),
  (6, ⟨(some 111), .ext 2 (.tmp 105), none⟩),
  (7, ⟨(some 112), .ext 3 (.tmp 105), none⟩),
  (8, ⟨(some 113), .ext 4 (.tmp 105), none⟩),
  (9, ⟨(some 22), .alloc 42 [(.t (.i .i64 0)), .nl, (.t (.i .i64 0)), .nl], none⟩),
  (10, ⟨none, .store 4 (.tmp 22) (.tmp 109), none⟩),
  (11, ⟨(some 23), .mv (.tmp 110), none⟩),
  (12, ⟨(some 24), .mv (.tmp 111), none⟩),
  (13, ⟨(some 25), .mv (.tmp 112), none⟩),
  (14, ⟨(some 26), .mv (.tmp 113), none⟩)]
abbrev f3r16 : Pc := .reg f3o16 [1, 3, 4, 11, 12, 13, 14, 15, 16, 22, 23, 24, 25, 26, 77, 78, 79] []
abbrev f3o17 : List (Nat × Pop) := [
  (0, ⟨(some 114), .load true 4 (.tmp 22), none⟩),
  (1, ⟨none, .store 4 (.tmp 14) (.tmp 114), none⟩)]
abbrev f3r17 : Pc := .reg f3o17 [1, 3, 4, 11, 12, 13, 14, 15, 16, 23, 24, 25, 26, 77, 78, 79] [22]
abbrev f3o18 : List (Nat × Pop) := [
  (0, ⟨(some 115), .mv (.tmp 26), none⟩),
  (1, ⟨(some 116), .bin .neq (.tmp 115) (.c (.t (.i .i64 0))), none⟩),
  (2, ⟨(some 117), .mv (.tmp 116), none⟩),
  (3, ⟨(some 118), .mv (.tmp 24), (some (117, false))⟩),
  (4, ⟨(some 119), .un .not (.tmp 118), (some (117, false))⟩),
  (5, ⟨(some 120), .pick (.tmp 117) (.c (.t (.b true))) (.tmp 119), none⟩),
  (6, ⟨(some 121), .mv (.tmp 120), none⟩),
  (7, ⟨(some 122), .mv (.tmp 23), (some (121, false))⟩),
  (8, ⟨(some 123), .lenS (.tmp 122), (some (121, false))⟩),
  (9, ⟨(some 124), .bin .lss (.tmp 123) (.c (.t (.i .i64 1))), (some (121, false))⟩),
  (10, ⟨(some 125), .pick (.tmp 121) (.c (.t (.b true))) (.tmp 124), none⟩),
  (11, ⟨(some 126), .mv (.tmp 125), none⟩),
  (12, ⟨(some 127), .mv (.tmp 23), (some (126, false))⟩),
  (13, ⟨(some 128), .ixs (.tmp 127) (.c (.t (.i .i64 0))), (some (126, false))⟩),
  (14, ⟨(some 129), .cvi .i64 (.tmp 128), (some (126, false))⟩),
  (15, ⟨(some 130), .mv (.tmp 11), (some (126, false))⟩),
  (16, ⟨(some 131), .lenL (.tmp 130), (some (126, false))⟩),
  (17, ⟨(some 132), .bin .geq (.tmp 129) (.tmp 131), (some (126, false))⟩),
  (18, ⟨(some 133), .pick (.tmp 126) (.c (.t (.b true))) (.tmp 132), none⟩)]
abbrev f3r18 : Pc := .reg f3o18 [1, 3, 4, 11, 12, 13, 14, 15, 16, 23, 25, 77, 78, 79, 133] []
abbrev f3o19 : List (Nat × Pop) := [
  (0, ⟨(some 8), .mv (.c (.t (.b false))), none⟩)]
abbrev f3r19 : Pc := .reg f3o19 [8] [4, 13, 14, 73, 76]
abbrev f3o20 : List (Nat × Pop) := [
  (0, ⟨(some 134), .mv (.tmp 15), none⟩),
  (1, ⟨(some 135), .mv (.tmp 23), none⟩),
  (2, ⟨(some 136), .ixs (.tmp 135) (.c (.t (.i .i64 0))), none⟩),
  (3, ⟨(some 137), .mv (.tmp 23), none⟩),
  (4, ⟨(some 138), .slS (.tmp 137) (some (.c (.t (.i .i64 1)))) none, none⟩),
  (5, ⟨(some 139), .ixS 1 (.tmp 134) (.tmp 136), none⟩),
  (6, ⟨none, .store 1 (.tmp 139) (.tmp 138), none⟩)]
abbrev f3r20 : Pc := .reg f3o20 [1, 3, 4, 11, 12, 13, 14, 15, 16, 23, 25, 77, 78, 79] []
abbrev f3o21 : List (Nat × Pop) := [
  (0, ⟨(some 140), .mv (.tmp 16), none⟩),
  (1, ⟨(some 141), .mv (.tmp 23), none⟩),
  (2, ⟨(some 142), .ixs (.tmp 141) (.c (.t (.i .i64 0))), none⟩),
  (3, ⟨(some 143), .ixS 1 (.tmp 140) (.tmp 142), none⟩),
  (4, ⟨(some 144), .load false 1 (.tmp 143), none⟩),
  (5, ⟨(some 145), .bin .add (.tmp 144) (.c (.t (.i .i64 1))), none⟩),
  (6, ⟨(some 146), .ixS 1 (.tmp 140) (.tmp 142), none⟩),
  (7, ⟨none, .store 1 (.tmp 146) (.tmp 145), none⟩)]
abbrev f3r21 : Pc := .reg f3o21 [1, 3, 4, 11, 12, 13, 14, 15, 16, 25, 77, 78, 79] []
abbrev f3o22 : List (Nat × Pop) := [
  (0, ⟨(some 148), .load true 4 (.tmp 13), none⟩),
  (1, ⟨(some 149), .mv (.tmp 25), none⟩),
  (2, ⟨(some 150), .call 10 [(.tmp 148), (.tmp 149)], none⟩),
  (3, ⟨(some 147), .mv (.tmp 150), none⟩),
  (4, ⟨(some 151), .ext 0 (.tmp 147), none⟩),
  (5, ⟨(some 152), .ext 1 (.tmp 147), none⟩),
  (6, ⟨(some 153), .ext 2 (.tmp 147), none⟩),
  (7, ⟨(some 154), .ext 3 (.tmp 147), none⟩),
  (8, ⟨(some 155), .ext 4 (.tmp 147), none⟩),
  (9, ⟨none, .store 4 (.tmp 13) (.tmp 151), none⟩)]
abbrev f3r22 : Pc := .reg f3o22 [1, 3, 4, 11, 12, 13, 14, 15, 16, 77, 78, 79] []
abbrev f3o23 : List (Nat × Pop) := [
  (0, ⟨(some 156), .bin .add (.tmp 79) (.c (.t (.i .i64 1))), none⟩),
  (1, ⟨(some 79), .mv (.tmp 156), none⟩)]
abbrev f3r23 : Pc := .reg f3o23 [1, 3, 4, 11, 12, 13, 14, 15, 16, 77, 78, 79] []
def f3l0 : Pc := (.seq f3r9 (.seq (.cond (.tmp 80) .skip (.exit 0)) (.seq (.block 1 (.seq f3r10 (.seq f3r11 (.seq (.seq f3r12 (.cond (.tmp 97) (.seq f3r13 .ret) .skip)) (.seq f3r14 (.seq (.seq f3r15 (.cond (.tmp 104) (.exit 1) .skip)) (.seq f3r16 (.seq f3r17 (.seq (.seq f3r18 (.cond (.tmp 133) (.seq f3r19 .ret) .skip)) (.seq f3r20 (.seq f3r21 f3r22))))))))))) f3r23)))
theorem f3l0e (C : Cfg) (s : St) : evL C f3l0 s = evL C (.seq f3r9 (.seq (.cond (.tmp 80) .skip (.exit 0)) (.seq (.block 1 (.seq f3r10 (.seq f3r11 (.seq (.seq f3r12 (.cond (.tmp 97) (.seq f3r13 .ret) .skip)) (.seq f3r14 (.seq (.seq f3r15 (.cond (.tmp 104) (.exit 1) .skip)) (.seq f3r16 (.seq f3r17 (.seq (.seq f3r18 (.cond (.tmp 133) (.seq f3r19 .ret) .skip)) (.seq f3r20 (.seq f3r21 f3r22))))))))))) f3r23))) s := rfl
abbrev f3o24 : List (Nat × Pop) := [
  (0, ⟨(some 157), .load true 4 (.tmp 13), none⟩),
  (1, ⟨(some 158), .call 11 [(.tmp 157)], none⟩),
  (2, ⟨(some 159), .lenL (.tmp 158), none⟩),
  (3, ⟨(some 160), .mv (.c (.t (.i .i64 0))), none⟩)]
abbrev f3r24 : Pc := .reg f3o24 [1, 4, 11, 12, 14, 15, 16, 158, 159, 160] [13]
abbrev f3o25 : List (Nat × Pop) := [
  (0, ⟨(some 161), .bin .lss (.tmp 160) (.tmp 159), none⟩)]
abbrev f3r25 : Pc := .reg f3o25 [1, 4, 11, 12, 14, 15, 16, 158, 159, 160, 161] []
abbrev f3o26 : List (Nat × Pop) := [
  (0, ⟨(some 162), .ixS 1 (.tmp 158) (.tmp 160), none⟩),
  (1, ⟨(some 163), .load false 1 (.tmp 162), none⟩),
  (2, ⟨(some 28), .mv (.tmp 163), none⟩)]
abbrev f3r26 : Pc := .reg f3o26 [1, 4, 11, 12, 14, 15, 16, 28, 158, 159, 160] []
abbrev f3o27 : List (Nat × Pop) := [
  (0, ⟨(some 165), .load true 4 (.tmp 14), none⟩),
  (1, ⟨(some 166), .mv (.tmp 28), none⟩),
  (2, ⟨(some 167), .call 10 [(.tmp 165), (.tmp 166)], none⟩),
  (3, ⟨(some 164), .mv (.tmp 167), none⟩),
  (4, ⟨(some 168), .ext 0 (.tmp 164), none⟩),
  (5, ⟨(some 169), .ext 1 (.tmp 164), none⟩),
  (6, ⟨(some 170), .ext 2 (.tmp 164), none⟩),
  (7, ⟨(some 171), .ext 3 (.tmp 164), none⟩),
  (8, ⟨(some 172), .ext 4 (.tmp 164), none⟩),
  (9, ⟨(some 29), .alloc 42 [(.t (.i .i64 0)), .nl, (.t (.i .i64 0)), .nl], none⟩),
  (10, ⟨none, .store 4 (.tmp 29) (.tmp 168), none⟩),
  (11, ⟨(some 30), .mv (.tmp 169), none⟩),
  (12, ⟨(some 31), .mv (.tmp 170), none⟩),
  (13, ⟨(some 32), .mv (.tmp 171), none⟩),
  (14, ⟨(some 33), .mv (.tmp 172), none⟩)]
abbrev f3r27 : Pc := .reg f3o27 [1, 4, 11, 12, 14, 15, 16, 29, 30, 31, 33, 158, 159, 160] []
abbrev f3o28 : List (Nat × Pop) := [
  (0, ⟨(some 173), .load true 4 (.tmp 29), none⟩),
  (1, ⟨none, .store 4 (.tmp 14) (.tmp 173), none⟩)]
abbrev f3r28 : Pc := .reg f3o28 [1, 4, 11, 12, 14, 15, 16, 30, 31, 33, 158, 159, 160] [29]
abbrev f3o29 : List (Nat × Pop) := [
  (0, ⟨(some 174), .mv (.tmp 33), none⟩),
  (1, ⟨(some 175), .bin .neq (.tmp 174) (.c (.t (.i .i64 0))), none⟩),
  (2, ⟨(some 176), .mv (.tmp 175), none⟩),
  (3, ⟨(some 177), .mv (.tmp 31), (some (176, false))⟩),
  (4, ⟨(some 178), .un .not (.tmp 177), (some (176, false))⟩),
  (5, ⟨(some 179), .pick (.tmp 176) (.c (.t (.b true))) (.tmp 178), none⟩),
  (6, ⟨(some 180), .mv (.tmp 179), none⟩),
  (7, ⟨(some 181), .mv (.tmp 30), (some (180, false))⟩),
  (8, ⟨(some 182), .lenS (.tmp 181), (some (180, false))⟩),
  (9, ⟨(some 183), .bin .lss (.tmp 182) (.c (.t (.i .i64 1))), (some (180, false))⟩),
  (10, ⟨(some 184), .pick (.tmp 180) (.c (.t (.b true))) (.tmp 183), none⟩),
  (11, ⟨(some 185), .mv (.tmp 184), none⟩),
  (12, ⟨(some 186), .mv (.tmp 30), (some (185, false))⟩),
  (13, ⟨(some 187), .ixs (.tmp 186) (.c (.t (.i .i64 0))), (some (185, false))⟩),
  (14, ⟨(some 188), .cvi .i64 (.tmp 187), (some (185, false))⟩),
  (15, ⟨(some 189), .mv (.tmp 11), (some (185, false))⟩),
  (16, ⟨(some 190), .lenL (.tmp 189), (some (185, false))⟩),
  (17, ⟨(some 191), .bin .geq (.tmp 188) (.tmp 190), (some (185, false))⟩),
  (18, ⟨(some 192), .pick (.tmp 185) (.c (.t (.b true))) (.tmp 191), none⟩)]
abbrev f3r29 : Pc := .reg f3o29 [1, 4, 11, 12, 14, 15, 16, 30, 158, 159, 160, 192] []
abbrev f3o30 : List (Nat × Pop) := [
  (0, ⟨(some 8), .mv (.c (.t (.b false))), none⟩)]
abbrev f3r30 : Pc := .reg f3o30 [8] [4, 14, 73, 76]
abbrev f3o31 : List (Nat × Pop) := [
  (0, ⟨(some 193), .mv (.tmp 15), none⟩),
  (1, ⟨(some 194), .mv (.tmp 30), none⟩),
  (2, ⟨(some 195), .ixs (.tmp 194) (.c (.t (.i .i64 0))), none⟩),
  (3, ⟨(some 196), .mv (.tmp 30), none⟩),
  (4, ⟨(some 197), .slS (.tmp 196) (some (.c (.t (.i .i64 1)))) none, none⟩),
  (5, ⟨(some 198), .ixS 1 (.tmp 193) (.tmp 195), none⟩),
  (6, ⟨none, .store 1 (.tmp 198) (.tmp 197), none⟩)]
abbrev f3r31 : Pc := .reg f3o31 [1, 4, 11, 12, 14, 15, 16, 30, 158, 159, 160] []
abbrev f3o32 : List (Nat × Pop) := [
  (0, ⟨(some 199), .mv (.tmp 16), none⟩),
  (1, ⟨(some 200), .mv (.tmp 30), none⟩),
  (2, ⟨(some 201), .ixs (.tmp 200) (.c (.t (.i .i64 0))), none⟩),
  (3, ⟨(some 202), .ixS 1 (.tmp 199) (.tmp 201), none⟩),
  (4, ⟨(some 203), .load false 1 (.tmp 202), none⟩),
  (5, ⟨(some 204), .bin .add (.tmp 203) (.c (.t (.i .i64 1))), none⟩),
  (6, ⟨(some 205), .ixS 1 (.tmp 199) (.tmp 201), none⟩),
  (7, ⟨none, .store 1 (.tmp 205) (.tmp 204), none⟩)]
abbrev f3r32 : Pc := .reg f3o32 [1, 4, 11, 12, 14, 15, 16, 158, 159, 160] []
abbrev f3o33 : List (Nat × Pop) := [
  (0, ⟨(some 206), .bin .add (.tmp 160) (.c (.t (.i .i64 1))), none⟩),
  (1, ⟨(some 160), .mv (.tmp 206), none⟩)]
abbrev f3r33 : Pc := .reg f3o33 [1, 4, 11, 12, 14, 15, 16, 158, 159, 160] []
def f3l1 : Pc := (.seq f3r25 (.seq (.cond (.tmp 161) .skip (.exit 2)) (.seq (.block 3 (.seq f3r26 (.seq f3r27 (.seq f3r28 (.seq (.seq f3r29 (.cond (.tmp 192) (.seq f3r30 .ret) .skip)) (.seq f3r31 f3r32)))))) f3r33)))
theorem f3l1e (C : Cfg) (s : St) : evL C f3l1 s = evL C (.seq f3r25 (.seq (.cond (.tmp 161) .skip (.exit 2)) (.seq (.block 3 (.seq f3r26 (.seq f3r27 (.seq f3r28 (.seq (.seq f3r29 (.cond (.tmp 192) (.seq f3r30 .ret) .skip)) (.seq f3r31 f3r32)))))) f3r33))) s := rfl
abbrev f3o34 : List (Nat × Pop) := [
  (0, ⟨(some 207), .mv (.tmp 16), none⟩),
  (1, ⟨(some 208), .lenL (.tmp 207), none⟩),
  (2, ⟨(some 209), .mv (.c (.t (.i .i64 0))), none⟩)]
abbrev f3r34 : Pc := .reg f3o34 [1, 4, 12, 15, 207, 208, 209] [14]
abbrev f3o35 : List (Nat × Pop) := [
  (0, ⟨(some 210), .bin .lss (.tmp 209) (.tmp 208), none⟩)]
abbrev f3r35 : Pc := .reg f3o35 [1, 4, 12, 15, 207, 208, 209, 210] []
abbrev f3o36 : List (Nat × Pop) := [
  (0, ⟨(some 211), .ixS 1 (.tmp 207) (.tmp 209), none⟩),
  (1, ⟨(some 212), .load false 1 (.tmp 211), none⟩),
  (2, ⟨(some 35), .mv (.tmp 212), none⟩)]
abbrev f3r36 : Pc := .reg f3o36 [1, 4, 12, 15, 35, 207, 208, 209] []
abbrev f3o37 : List (Nat × Pop) := [
  (0, ⟨(some 213), .mv (.tmp 35), none⟩),
  (1, ⟨(some 214), .bin .neq (.tmp 213) (.c (.t (.i .i64 1))), none⟩)]
abbrev f3r37 : Pc := .reg f3o37 [1, 4, 12, 15, 207, 208, 209, 214] []
abbrev f3o38 : List (Nat × Pop) := [
  (0, ⟨(some 8), .mv (.c (.t (.b false))), none⟩)]
abbrev f3r38 : Pc := .reg f3o38 [8] [4, 73, 76]
abbrev f3o39 : List (Nat × Pop) := [
  (0, ⟨(some 215), .bin .add (.tmp 209) (.c (.t (.i .i64 1))), none⟩),
  (1, ⟨(some 209), .mv (.tmp 215), none⟩)]
abbrev f3r39 : Pc := .reg f3o39 [1, 4, 12, 15, 207, 208, 209] []
def f3l2 : Pc := (.seq f3r35 (.seq (.cond (.tmp 210) .skip (.exit 4)) (.seq (.block 5 (.seq f3r36 (.seq f3r37 (.cond (.tmp 214) (.seq f3r38 .ret) .skip)))) f3r39)))
theorem f3l2e (C : Cfg) (s : St) : evL C f3l2 s = evL C (.seq f3r35 (.seq (.cond (.tmp 210) .skip (.exit 4)) (.seq (.block 5 (.seq f3r36 (.seq f3r37 (.cond (.tmp 214) (.seq f3r38 .ret) .skip)))) f3r39))) s := rfl
abbrev f3o40 : List (Nat × Pop) := [
  (0, ⟨(some 217), .mv (.tmp 15), none⟩),
  (1, ⟨(some 218), .call 13 [(.tmp 217)], none⟩),
  (2, ⟨(some 219), .call 12 [(.tmp 218)], none⟩),
  (3, ⟨(some 216), .mv (.tmp 219), none⟩),
  (4, ⟨(some 220), .ext 0 (.tmp 216), none⟩),
  (5, ⟨(some 221), .ext 1 (.tmp 216), none⟩),
  (6, ⟨(some 222), .ext 2 (.tmp 216), none⟩),
  (7, ⟨(some 36), .alloc 24 [.nl, .nl], none⟩),
  (8, ⟨none, .store 2 (.tmp 36) (.tmp 220), none⟩),
  (9, ⟨(some 37), .mv (.tmp 221), none⟩),
  (10, ⟨(some 38), .mv (.tmp 222), none⟩)]
abbrev f3r40 : Pc := .reg f3o40 [1, 4, 12, 36, 37, 38] [76]
abbrev f3o41 : List (Nat × Pop) := [
  (0, ⟨(some 223), .mv (.tmp 12), none⟩),
  (1, ⟨(some 224), .mv (.tmp 223), none⟩),
  (2, ⟨(some 225), .mv (.tmp 38), (some (224, true))⟩),
  (3, ⟨(some 226), .bin .eql (.tmp 225) (.c (.t (.i .i64 0))), (some (224, true))⟩),
  (4, ⟨(some 227), .pick (.tmp 224) (.tmp 226) (.c (.t (.b false))), none⟩),
  (5, ⟨(some 228), .mv (.tmp 227), none⟩),
  (6, ⟨(some 229), .mv (.tmp 37), (some (228, true))⟩),
  (7, ⟨(some 230), .mv (.tmp 1), (some (228, true))⟩),
  (8, ⟨(some 231), .bin .eql (.tmp 229) (.tmp 230), (some (228, true))⟩),
  (9, ⟨(some 232), .pick (.tmp 228) (.tmp 231) (.c (.t (.b false))), none⟩),
  (10, ⟨(some 233), .mv (.tmp 232), none⟩),
  (11, ⟨(some 234), .fad 0 (.tmp 4), (some (233, true))⟩),
  (12, ⟨(some 235), .load false 1 (.tmp 234), (some (233, true))⟩),
  (13, ⟨(some 236), .fad 0 (.tmp 36), (some (233, true))⟩),
  (14, ⟨(some 237), .load false 1 (.tmp 236), (some (233, true))⟩),
  (15, ⟨(some 238), .call 14 [(.tmp 235), (.tmp 237)], (some (233, true))⟩),
  (16, ⟨(some 239), .pick (.tmp 233) (.tmp 238) (.c (.t (.b false))), none⟩),
  (17, ⟨(some 240), .mv (.tmp 239), none⟩),
  (18, ⟨(some 241), .fad 1 (.tmp 4), (some (240, true))⟩),
  (19, ⟨(some 242), .load false 1 (.tmp 241), (some (240, true))⟩),
  (20, ⟨(some 243), .fad 1 (.tmp 36), (some (240, true))⟩),
  (21, ⟨(some 244), .load false 1 (.tmp 243), (some (240, true))⟩),
  (22, ⟨(some 245), .call 14 [(.tmp 242), (.tmp 244)], (some (240, true))⟩),
  (23, ⟨(some 246), .pick (.tmp 240) (.tmp 245) (.c (.t (.b false))), none⟩),
  (24, ⟨(some 247), .mv (.tmp 246), none⟩),
  (25, ⟨(some 248), .call 6 [], (some (247, true))⟩),
  (26, ⟨(some 249), .pick (.tmp 247) (.tmp 248) (.c (.t (.b false))), none⟩),
  (27, ⟨(some 8), .mv (.tmp 249), none⟩)]
abbrev f3r41 : Pc := .reg f3o41 [8] [4, 36, 73]
abbrev f3b : Pc := (.seq f3r0 (.seq (.seq f3r1 (.cond (.tmp 54) (.seq f3r2 .ret) .skip)) (.seq f3r3 (.seq f3r4 (.seq f3r5 (.seq f3r6 (.seq f3r7 (.seq (.seq f3r8 (.block 0 (.loop f3l0))) (.seq (.seq f3r24 (.block 2 (.loop f3l1))) (.seq (.seq f3r34 (.block 4 (.loop f3l2))) (.seq f3r40 (.seq f3r41 .ret))))))))))))
abbrev f3 : Pfn := ⟨4, 250, [.tmp 8], f3b⟩
def f3K : Array (List Nat) := #[[1, 2, 3, 4], [1, 2, 3, 4, 54], [8], [1, 2, 3, 4, 9], [1, 3, 4, 11, 12], [1, 3, 4, 11, 12, 13, 14], [1, 3, 4, 11, 12, 13, 14, 15], [1, 3, 4, 11, 12, 13, 14, 15, 16], [1, 3, 4, 11, 12, 13, 14, 15, 16, 77, 78, 79], [1, 3, 4, 11, 12, 13, 14, 15, 16, 77, 78, 79, 80], [1, 3, 4, 11, 12, 13, 14, 15, 16, 17, 18, 77, 78, 79], [1, 3, 4, 11, 12, 13, 14, 15, 16, 17, 19, 20, 21, 77, 78, 79], [1, 3, 4, 11, 12, 13, 14, 15, 16, 17, 19, 20, 77, 78, 79, 97], [8], [1, 3, 4, 11, 12, 13, 14, 15, 16, 17, 20, 77, 78, 79], [1, 3, 4, 11, 12, 13, 14, 15, 16, 20, 77, 78, 79, 104], [1, 3, 4, 11, 12, 13, 14, 15, 16, 22, 23, 24, 25, 26, 77, 78, 79], [1, 3, 4, 11, 12, 13, 14, 15, 16, 23, 24, 25, 26, 77, 78, 79], [1, 3, 4, 11, 12, 13, 14, 15, 16, 23, 25, 77, 78, 79, 133], [8], [1, 3, 4, 11, 12, 13, 14, 15, 16, 23, 25, 77, 78, 79], [1, 3, 4, 11, 12, 13, 14, 15, 16, 25, 77, 78, 79], [1, 3, 4, 11, 12, 13, 14, 15, 16, 77, 78, 79], [1, 3, 4, 11, 12, 13, 14, 15, 16, 77, 78, 79], [1, 4, 11, 12, 14, 15, 16, 158, 159, 160], [1, 4, 11, 12, 14, 15, 16, 158, 159, 160, 161], [1, 4, 11, 12, 14, 15, 16, 28, 158, 159, 160], [1, 4, 11, 12, 14, 15, 16, 29, 30, 31, 33, 158, 159, 160], [1, 4, 11, 12, 14, 15, 16, 30, 31, 33, 158, 159, 160], [1, 4, 11, 12, 14, 15, 16, 30, 158, 159, 160, 192], [8], [1, 4, 11, 12, 14, 15, 16, 30, 158, 159, 160], [1, 4, 11, 12, 14, 15, 16, 158, 159, 160], [1, 4, 11, 12, 14, 15, 16, 158, 159, 160], [1, 4, 12, 15, 207, 208, 209], [1, 4, 12, 15, 207, 208, 209, 210], [1, 4, 12, 15, 35, 207, 208, 209], [1, 4, 12, 15, 207, 208, 209, 214], [8], [1, 4, 12, 15, 207, 208, 209], [1, 4, 12, 36, 37, 38], [8]]
def f3H : Array (List Nat) := #[[], [], [4], [], [], [], [], [], [], [], [], [], [], [4, 13, 14, 19, 73, 76], [19], [], [], [22], [], [4, 13, 14, 73, 76], [], [], [], [], [13], [], [], [], [29], [], [4, 14, 73, 76], [], [], [], [14], [], [], [], [4, 73, 76], [], [76], [4, 36, 73]]
def f3A : Ann := ⟨fun r => f3K.getD r [], fun r => f3H.getD r [], fun r i => ([] : List (Nat × Nat)).contains (r, i)⟩
theorem f3C : compF Go.Proofs.Tryz.prog f3A 3 = some f3 := by kernel_rfl

/-- switchboard/switchboardref03.Small -/
abbrev f4o0 : List (Nat × Pop) := [
  (0, ⟨(some 2), .mv (.c (.t (.b false))), none⟩)]
abbrev f4r0 : Pc := .reg f4o0 [0] []
abbrev f4o1 : List (Nat × Pop) := [
  (0, ⟨(some 3), .mv (.c (.t (.i .i64 0))), none⟩)]
abbrev f4r1 : Pc := .reg f4o1 [0, 3] []
abbrev f4o2 : List (Nat × Pop) := [
  (0, ⟨(some 4), .mv (.tmp 3), none⟩),
  (1, ⟨(some 5), .mv (.tmp 0), none⟩),
  (2, ⟨(some 6), .lenL (.tmp 5), none⟩),
  (3, ⟨(some 7), .bin .lss (.tmp 4) (.tmp 6), none⟩),
  (4, ⟨(some 8), .mv (.tmp 7), none⟩),
  (5, ⟨(some 9), .mv (.tmp 3), (some (8, true))⟩),
  (6, ⟨(some 10), .bin .lss (.tmp 9) (.c (.t (.i .i64 30))), (some (8, true))⟩),
  (7, ⟨(some 11), .pick (.tmp 8) (.tmp 10) (.c (.t (.b false))), none⟩)]
abbrev f4r2 : Pc := .reg f4o2 [0, 3, 11] []
abbrev f4o4 : List (Nat × Pop) := [
  (0, ⟨(some 14), .mv (.tmp 0), none⟩),
  (1, ⟨(some 15), .mv (.tmp 3), none⟩),
  (2, ⟨(some 16), .ixS 1 (.tmp 14) (.tmp 15), none⟩),
  (3, ⟨(some 17), .load false 1 (.tmp 16), none⟩),
  (4, ⟨(some 18), .lenL (.tmp 17), none⟩),
  (5, ⟨(some 19), .bin .gtr (.tmp 18) (.c (.t (.i .i64 30))), none⟩)]
abbrev f4r4 : Pc := .reg f4o4 [0, 3, 19] []
abbrev f4o5 : List (Nat × Pop) := [
  (0, ⟨(some 2), .mv (.c (.t (.b false))), none⟩)]
abbrev f4r5 : Pc := .reg f4o5 [2] []
abbrev f4o3 : List (Nat × Pop) := [
  (0, ⟨(some 12), .mv (.tmp 3), none⟩),
  (1, ⟨(some 13), .bin .add (.tmp 12) (.c (.t (.i .i64 1))), none⟩),
  (2, ⟨(some 3), .mv (.tmp 13), none⟩)]
abbrev f4r3 : Pc := .reg f4o3 [0, 3] []
def f4l0 : Pc := (.seq (.seq f4r2 (.cond (.tmp 11) .skip (.exit 0))) (.seq (.block 1 (.seq f4r4 (.cond (.tmp 19) (.seq f4r5 .ret) .skip))) f4r3))
theorem f4l0e (C : Cfg) (s : St) : evL C f4l0 s = evL C (.seq (.seq f4r2 (.cond (.tmp 11) .skip (.exit 0))) (.seq (.block 1 (.seq f4r4 (.cond (.tmp 19) (.seq f4r5 .ret) .skip))) f4r3)) s := rfl
abbrev f4o6 : List (Nat × Pop) := [
  (0, ⟨(some 20), .mv (.tmp 0), none⟩),
  (1, ⟨(some 21), .lenL (.tmp 20), none⟩),
  (2, ⟨(some 22), .bin .leq (.tmp 21) (.c (.t (.i .i64 30))), none⟩),
  (3, ⟨(some 2), .mv (.tmp 22), none⟩)]
abbrev f4r6 : Pc := .reg f4o6 [2] []
abbrev f4b : Pc := (.seq f4r0 (.seq (.seq f4r1 (.block 0 (.loop f4l0))) (.seq f4r6 .ret)))
abbrev f4 : Pfn := ⟨1, 23, [.tmp 2], f4b⟩
def f4K : Array (List Nat) := #[[0], [0, 3], [0, 3, 11], [0, 3], [0, 3, 19], [2], [2]]
def f4H : Array (List Nat) := #[[], [], [], [], [], [], []]
def f4A : Ann := ⟨fun r => f4K.getD r [], fun r => f4H.getD r [], fun r i => ([] : List (Nat × Nat)).contains (r, i)⟩
theorem f4C : compF Go.Proofs.Tryz.prog f4A 4 = some f4 := by kernel_rfl

/-- switchboard/switchboardref11.Right -/
abbrev f5o0 : List (Nat × Pop) := [
  (0, ⟨(some 2), .box 24 2 (.tmp 0), none⟩),
  (1, ⟨(some 4), .mv (.c (.t (.b false))), none⟩)]
abbrev f5r0 : Pc := .reg f5o0 [1, 2] []
abbrev f5o1 : List (Nat × Pop) := [
  (0, ⟨(some 6), .fad 0 (.tmp 2), none⟩),
  (1, ⟨(some 7), .load false 1 (.tmp 6), none⟩),
  (2, ⟨(some 8), .lenL (.tmp 7), none⟩),
  (3, ⟨(some 5), .mv (.tmp 8), none⟩)]
abbrev f5r1 : Pc := .reg f5o1 [1, 2, 5] []
abbrev f5o2 : List (Nat × Pop) := [
  (0, ⟨(some 9), .mv (.tmp 1), none⟩),
  (1, ⟨(some 10), .bin .lss (.tmp 9) (.c (.t (.i .i64 1))), none⟩),
  (2, ⟨(some 11), .mv (.tmp 10), none⟩),
  (3, ⟨(some 12), .mv (.tmp 1), (some (11, false))⟩),
  (4, ⟨(some 13), .bin .gtr (.tmp 12) (.c (.t (.i .i64 8))), (some (11, false))⟩),
  (5, ⟨(some 14), .pick (.tmp 11) (.c (.t (.b true))) (.tmp 13), none⟩),
  (6, ⟨(some 15), .mv (.tmp 14), none⟩),
  (7, ⟨(some 16), .mv (.tmp 5), (some (15, false))⟩),
  (8, ⟨(some 17), .bin .lss (.tmp 16) (.c (.t (.i .i64 1))), (some (15, false))⟩),
  (9, ⟨(some 18), .pick (.tmp 15) (.c (.t (.b true))) (.tmp 17), none⟩),
  (10, ⟨(some 19), .mv (.tmp 18), none⟩),
  (11, ⟨(some 20), .mv (.tmp 5), (some (19, false))⟩),
  (12, ⟨(some 21), .bin .gtr (.tmp 20) (.c (.t (.i .i64 8))), (some (19, false))⟩),
  (13, ⟨(some 22), .pick (.tmp 19) (.c (.t (.b true))) (.tmp 21), none⟩)]
abbrev f5r2 : Pc := .reg f5o2 [1, 2, 5, 22] []
abbrev f5o3 : List (Nat × Pop) := [
  (0, ⟨(some 4), .mv (.c (.t (.b false))), none⟩)]
abbrev f5r3 : Pc := .reg f5o3 [4] [2]
abbrev f5o4 : List (Nat × Pop) := [
  (0, ⟨(some 23), .fad 0 (.tmp 2), none⟩),
  (1, ⟨(some 24), .load false 1 (.tmp 23), none⟩),
  (2, ⟨(some 25), .mv (.tmp 5), none⟩),
  (3, ⟨(some 26), .mv (.tmp 1), none⟩),
  (4, ⟨(some 27), .call 15 [(.tmp 24), (.tmp 25), (.tmp 26)], none⟩),
  (5, ⟨(some 28), .mv (.tmp 27), none⟩),
  (6, ⟨(some 29), .fad 1 (.tmp 2), (some (28, true))⟩),
  (7, ⟨(some 30), .load false 1 (.tmp 29), (some (28, true))⟩),
  (8, ⟨(some 31), .mv (.tmp 1), (some (28, true))⟩),
  (9, ⟨(some 32), .mv (.tmp 5), (some (28, true))⟩),
  (10, ⟨(some 33), .call 15 [(.tmp 30), (.tmp 31), (.tmp 32)], (some (28, true))⟩),
  (11, ⟨(some 34), .pick (.tmp 28) (.tmp 33) (.c (.t (.b false))), none⟩),
  (12, ⟨(some 4), .mv (.tmp 34), none⟩)]
abbrev f5r4 : Pc := .reg f5o4 [4] [2]
abbrev f5b : Pc := (.seq f5r0 (.seq f5r1 (.seq (.seq f5r2 (.cond (.tmp 22) (.seq f5r3 .ret) .skip)) (.seq f5r4 .ret))))
abbrev f5 : Pfn := ⟨2, 35, [.tmp 4], f5b⟩
def f5K : Array (List Nat) := #[[1, 2], [1, 2, 5], [1, 2, 5, 22], [4], [4]]
def f5H : Array (List Nat) := #[[], [], [], [2], [2]]
def f5A : Ann := ⟨fun r => f5K.getD r [], fun r => f5H.getD r [], fun r i => ([] : List (Nat × Nat)).contains (r, i)⟩
theorem f5C : compF Go.Proofs.Tryz.prog f5A 5 = some f5 := by kernel_rfl

/-- switchboard/switchboardtop.lives -/
abbrev f6o0 : List (Nat × Pop) := [
  (0, ⟨(some 0), .mv (.c (.t (.b false))), none⟩)]
abbrev f6r0 : Pc := .reg f6o0 [] []
abbrev f6o1 : List (Nat × Pop) := [
  (0, ⟨(some 5), .bslT 1 [(.c (.t (.i .i64 65536)))], none⟩),
  (1, ⟨(some 6), .bslT 1 [(.tmp 5)], none⟩),
  (2, ⟨(some 1), .mv (.tmp 6), none⟩)]
abbrev f6r1 : Pc := .reg f6o1 [1] []
abbrev f6o2 : List (Nat × Pop) := [
  (0, ⟨(some 7), .mv (.tmp 1), none⟩),
  (1, ⟨(some 8), .mv (.tmp 1), none⟩),
  (2, ⟨(some 9), .mv (.tmp 1), none⟩),
  (3, ⟨(some 10), .build [.nl, .nl] [(0, 1, (.tmp 8)), (1, 1, (.tmp 9))], none⟩),
  (4, ⟨(some 11), .bslT 2 [(.tmp 10)], none⟩),
  (5, ⟨(some 12), .build [.nl, .nl, (.t (.i .i64 0))] [(0, 1, (.tmp 7)), (1, 1, (.tmp 11)), (2, 1, (.c (.t (.i .i64 1))))], none⟩),
  (6, ⟨(some 13), .bslT 3 [(.tmp 12)], none⟩),
  (7, ⟨(some 14), .build [(.t (.i .i64 0)), .nl] [(0, 1, (.c (.t (.i .i64 1)))), (1, 1, (.tmp 13))], none⟩),
  (8, ⟨(some 2), .alloc 60 [(.t (.i .i64 0)), .nl], none⟩),
  (9, ⟨none, .store 2 (.tmp 2) (.tmp 14), none⟩)]
abbrev f6r2 : Pc := .reg f6o2 [2] []
abbrev f6o3 : List (Nat × Pop) := [
  (0, ⟨(some 16), .load true 2 (.tmp 2), none⟩),
  (1, ⟨(some 17), .bslT 1 [(.c (.t (.i .i64 7)))], none⟩),
  (2, ⟨(some 18), .bslT 1 [(.tmp 17)], none⟩),
  (3, ⟨(some 19), .call 16 [(.tmp 16), (.tmp 18)], none⟩),
  (4, ⟨(some 15), .mv (.tmp 19), none⟩),
  (5, ⟨(some 20), .ext 0 (.tmp 15), none⟩),
  (6, ⟨(some 21), .ext 1 (.tmp 15), none⟩),
  (7, ⟨(some 3), .mv (.tmp 20), none⟩),
  (8, ⟨(some 4), .mv (.tmp 21), none⟩)]
abbrev f6r3 : Pc := .reg f6o3 [3, 4] [2]
abbrev f6o4 : List (Nat × Pop) := [
  (0, ⟨(some 22), .mv (.tmp 4), none⟩),
  (1, ⟨(some 23), .bin .eql (.tmp 22) (.c (.t (.i .i64 0))), none⟩),
  (2, ⟨(some 24), .mv (.tmp 23), none⟩),
  (3, ⟨(some 25), .mv (.tmp 3), (some (24, true))⟩),
  (4, ⟨(some 26), .lenL (.tmp 25), (some (24, true))⟩),
  (5, ⟨(some 27), .bin .eql (.tmp 26) (.c (.t (.i .i64 1))), (some (24, true))⟩),
  (6, ⟨(some 28), .pick (.tmp 24) (.tmp 27) (.c (.t (.b false))), none⟩),
  (7, ⟨(some 29), .mv (.tmp 28), none⟩),
  (8, ⟨(some 30), .mv (.tmp 3), (some (29, true))⟩),
  (9, ⟨(some 31), .ixS 1 (.tmp 30) (.c (.t (.i .i64 0))), (some (29, true))⟩),
  (10, ⟨(some 32), .load false 1 (.tmp 31), (some (29, true))⟩),
  (11, ⟨(some 33), .lenL (.tmp 32), (some (29, true))⟩),
  (12, ⟨(some 34), .bin .eql (.tmp 33) (.c (.t (.i .i64 1))), (some (29, true))⟩),
  (13, ⟨(some 35), .pick (.tmp 29) (.tmp 34) (.c (.t (.b false))), none⟩),
  (14, ⟨(some 36), .mv (.tmp 35), none⟩),
  (15, ⟨(some 37), .mv (.tmp 3), (some (36, true))⟩),
  (16, ⟨(some 38), .ixS 1 (.tmp 37) (.c (.t (.i .i64 0))), (some (36, true))⟩),
  (17, ⟨(some 39), .load false 1 (.tmp 38), (some (36, true))⟩),
  (18, ⟨(some 40), .ixS 1 (.tmp 39) (.c (.t (.i .i64 0))), (some (36, true))⟩),
  (19, ⟨(some 41), .load false 1 (.tmp 40), (some (36, true))⟩),
  (20, ⟨(some 42), .bin .eql (.tmp 41) (.c (.t (.i .i64 14))), (some (36, true))⟩),
  (21, ⟨(some 43), .pick (.tmp 36) (.tmp 42) (.c (.t (.b false))), none⟩),
  (22, ⟨(some 0), .mv (.tmp 43), none⟩)]
abbrev f6r4 : Pc := .reg f6o4 [0] []
abbrev f6b : Pc := (.seq f6r0 (.seq f6r1 (.seq f6r2 (.seq f6r3 (.seq f6r4 .ret)))))
abbrev f6 : Pfn := ⟨0, 44, [.tmp 0], f6b⟩
def f6K : Array (List Nat) := #[[], [1], [2], [3, 4], [0]]
def f6H : Array (List Nat) := #[[], [], [], [2], []]
def f6A : Ann := ⟨fun r => f6K.getD r [], fun r => f6H.getD r [], fun r i => ([] : List (Nat × Nat)).contains (r, i)⟩
theorem f6C : compF Go.Proofs.Tryz.prog f6A 6 = some f6 := by kernel_rfl

/-- switchboard/chunk.Export -/
abbrev f7o0 : List (Nat × Pop) := [
  (0, ⟨(some 2), .box 24 2 (.tmp 0), none⟩),
  (1, ⟨(some 4), .mv (.c (.t (.s []))), none⟩),
  (2, ⟨(some 5), .mv (.c (.t (.i .i64 0))), none⟩)]
abbrev f7r0 : Pc := .reg f7o0 [1, 2] []
abbrev f7o1 : List (Nat × Pop) := [
  (0, ⟨(some 13), .load true 2 (.tmp 2), none⟩),
  (1, ⟨(some 14), .mv (.tmp 1), none⟩),
  (2, ⟨(some 15), .call 17 [(.tmp 13), (.tmp 14)], none⟩),
  (3, ⟨(some 16), .un .not (.tmp 15), none⟩)]
abbrev f7r1 : Pc := .reg f7o1 [1, 2, 16] []
abbrev f7o2 : List (Nat × Pop) := [
  (0, ⟨(some 4), .mv (.c (.t (.s []))), none⟩),
  (1, ⟨(some 5), .mv (.c (.t (.i .i64 1))), none⟩)]
abbrev f7r2 : Pc := .reg f7o2 [4, 5] [2]
abbrev f7o3 : List (Nat × Pop) := [
  (0, ⟨(some 6), .alloc 65 [(.t .np), .nl], none⟩)]
abbrev f7r3 : Pc := .reg f7o3 [1, 2, 6] []
abbrev f7o4 : List (Nat × Pop) := [
  (0, ⟨(some 17), .fad 0 (.tmp 2), none⟩),
  (1, ⟨(some 18), .load false 1 (.tmp 17), none⟩),
  (2, ⟨(some 19), .lenL (.tmp 18), none⟩),
  (3, ⟨(some 20), .call 19 [(.tmp 19)], none⟩),
  (4, ⟨(some 21), .mv (.tmp 1), none⟩),
  (5, ⟨(some 22), .call 19 [(.tmp 21)], none⟩),
  (6, ⟨(some 23), .bin .add (.tmp 20) (.tmp 22), none⟩),
  (7, ⟨(some 24), .call 18 [(.tmp 6), (.tmp 23)], none⟩)]
abbrev f7r4 : Pc := .reg f7o4 [2, 6] []
abbrev f7o5 : List (Nat × Pop) := [
  (0, ⟨(some 25), .fad 0 (.tmp 2), none⟩),
  (1, ⟨(some 26), .load false 1 (.tmp 25), none⟩),
  (2, ⟨(some 27), .fad 1 (.tmp 2), none⟩),
  (3, ⟨(some 28), .load false 1 (.tmp 27), none⟩),
  (4, ⟨(some 29), .bslT 1 [(.tmp 26), (.tmp 28)], none⟩),
  (5, ⟨(some 30), .lenL (.tmp 29), none⟩),
  (6, ⟨(some 31), .mv (.c (.t (.i .i64 0))), none⟩)]
abbrev f7r5 : Pc := .reg f7o5 [6, 29, 30, 31] [2]
abbrev f7o6 : List (Nat × Pop) := [
  (0, ⟨(some 32), .bin .lss (.tmp 31) (.tmp 30), none⟩)]
abbrev f7r6 : Pc := .reg f7o6 [6, 29, 30, 31, 32] []
abbrev f7o7 : List (Nat × Pop) := [
  (0, ⟨(some 33), .ixS 1 (.tmp 29) (.tmp 31), none⟩),
  (1, ⟨(some 34), .load false 1 (.tmp 33), none⟩),
  (2, ⟨(some 8), .mv (.tmp 34), none⟩)]
abbrev f7r7 : Pc := .reg f7o7 [6, 8, 29, 30, 31] []
abbrev f7o8 : List (Nat × Pop) := [
  (0, ⟨(some 35), .mv (.tmp 8), none⟩),
  (1, ⟨(some 36), .lenL (.tmp 35), none⟩),
  (2, ⟨(some 37), .mv (.c (.t (.i .i64 0))), none⟩)]
abbrev f7r8 : Pc := .reg f7o8 [6, 29, 30, 31, 35, 36, 37] []
abbrev f7o9 : List (Nat × Pop) := [
  (0, ⟨(some 38), .bin .lss (.tmp 37) (.tmp 36), none⟩)]
abbrev f7r9 : Pc := .reg f7o9 [6, 29, 30, 31, 35, 36, 37, 38] []
abbrev f7o10 : List (Nat × Pop) := [
  (0, ⟨(some 39), .ixS 1 (.tmp 35) (.tmp 37), none⟩),
  (1, ⟨(some 40), .load false 1 (.tmp 39), none⟩),
  (2, ⟨(some 10), .mv (.tmp 40), none⟩)]
abbrev f7r10 : Pc := .reg f7o10 [6, 10, 29, 30, 31, 35, 36, 37] []
abbrev f7o11 : List (Nat × Pop) := [
  (0, ⟨(some 41), .mv (.tmp 10), none⟩),
  (1, ⟨(some 42), .lenL (.tmp 41), none⟩),
  (2, ⟨(some 43), .mv (.c (.t (.i .i64 0))), none⟩)]
abbrev f7r11 : Pc := .reg f7o11 [6, 29, 30, 31, 35, 36, 37, 41, 42, 43] []
abbrev f7o12 : List (Nat × Pop) := [
  (0, ⟨(some 44), .bin .lss (.tmp 43) (.tmp 42), none⟩)]
abbrev f7r12 : Pc := .reg f7o12 [6, 29, 30, 31, 35, 36, 37, 41, 42, 43, 44] []
abbrev f7o13 : List (Nat × Pop) := [
  (0, ⟨(some 45), .ixS 1 (.tmp 41) (.tmp 43), none⟩),
  (1, ⟨(some 46), .load false 1 (.tmp 45), none⟩),
  (2, ⟨(some 12), .mv (.tmp 46), none⟩)]
abbrev f7r13 : Pc := .reg f7o13 [6, 12, 29, 30, 31, 35, 36, 37, 41, 42, 43] []
abbrev f7o14 : List (Nat × Pop) := [
  (0, ⟨(some 47), .mv (.tmp 12), none⟩),
  (1, ⟨(some 48), .call 19 [(.tmp 47)], none⟩),
  (2, ⟨(some 49), .call 18 [(.tmp 6), (.tmp 48)], none⟩)]
abbrev f7r14 : Pc := .reg f7o14 [6, 29, 30, 31, 35, 36, 37, 41, 42, 43] []
abbrev f7o15 : List (Nat × Pop) := [
  (0, ⟨(some 50), .bin .add (.tmp 43) (.c (.t (.i .i64 1))), none⟩),
  (1, ⟨(some 43), .mv (.tmp 50), none⟩)]
abbrev f7r15 : Pc := .reg f7o15 [6, 29, 30, 31, 35, 36, 37, 41, 42, 43] []
def f7l0 : Pc := (.seq f7r12 (.seq (.cond (.tmp 44) .skip (.exit 4)) (.seq (.block 5 (.seq f7r13 f7r14)) f7r15)))
theorem f7l0e (C : Cfg) (s : St) : evL C f7l0 s = evL C (.seq f7r12 (.seq (.cond (.tmp 44) .skip (.exit 4)) (.seq (.block 5 (.seq f7r13 f7r14)) f7r15))) s := rfl
abbrev f7o16 : List (Nat × Pop) := [
  (0, ⟨(some 51), .bin .add (.tmp 37) (.c (.t (.i .i64 1))), none⟩),
  (1, ⟨(some 37), .mv (.tmp 51), none⟩)]
abbrev f7r16 : Pc := .reg f7o16 [6, 29, 30, 31, 35, 36, 37] []
def f7l1 : Pc := (.seq f7r9 (.seq (.cond (.tmp 38) .skip (.exit 2)) (.seq (.block 3 (.seq f7r10 (.seq f7r11 (.block 4 (.loop f7l0))))) f7r16)))
theorem f7l1e (C : Cfg) (s : St) : evL C f7l1 s = evL C (.seq f7r9 (.seq (.cond (.tmp 38) .skip (.exit 2)) (.seq (.block 3 (.seq f7r10 (.seq f7r11 (.block 4 (.loop f7l0))))) f7r16))) s := rfl
abbrev f7o17 : List (Nat × Pop) := [
  (0, ⟨(some 52), .bin .add (.tmp 31) (.c (.t (.i .i64 1))), none⟩),
  (1, ⟨(some 31), .mv (.tmp 52), none⟩)]
abbrev f7r17 : Pc := .reg f7o17 [6, 29, 30, 31] []
def f7l2 : Pc := (.seq f7r6 (.seq (.cond (.tmp 32) .skip (.exit 0)) (.seq (.block 1 (.seq f7r7 (.seq f7r8 (.block 2 (.loop f7l1))))) f7r17)))
theorem f7l2e (C : Cfg) (s : St) : evL C f7l2 s = evL C (.seq f7r6 (.seq (.cond (.tmp 32) .skip (.exit 0)) (.seq (.block 1 (.seq f7r7 (.seq f7r8 (.block 2 (.loop f7l1))))) f7r17))) s := rfl
abbrev f7o18 : List (Nat × Pop) := [
  (0, ⟨(some 53), .call 20 [(.tmp 6)], none⟩),
  (1, ⟨(some 54), .call 20 [(.tmp 6)], none⟩),
  (2, ⟨(some 55), .call 21 [(.tmp 54)], none⟩),
  (3, ⟨(some 56), .call 19 [(.tmp 55)], none⟩),
  (4, ⟨(some 57), .bin .add (.tmp 53) (.tmp 56), none⟩),
  (5, ⟨(some 4), .mv (.tmp 57), none⟩),
  (6, ⟨(some 5), .mv (.c (.t (.i .i64 0))), none⟩)]
abbrev f7r18 : Pc := .reg f7o18 [4, 5] [6]
abbrev f7b : Pc := (.seq f7r0 (.seq (.seq f7r1 (.cond (.tmp 16) (.seq f7r2 .ret) .skip)) (.seq f7r3 (.seq f7r4 (.seq (.seq f7r5 (.block 0 (.loop f7l2))) (.seq f7r18 .ret))))))
abbrev f7 : Pfn := ⟨2, 58, [.tmp 4, .tmp 5], f7b⟩
def f7K : Array (List Nat) := #[[1, 2], [1, 2, 16], [4, 5], [1, 2, 6], [2, 6], [6, 29, 30, 31], [6, 29, 30, 31, 32], [6, 8, 29, 30, 31], [6, 29, 30, 31, 35, 36, 37], [6, 29, 30, 31, 35, 36, 37, 38], [6, 10, 29, 30, 31, 35, 36, 37], [6, 29, 30, 31, 35, 36, 37, 41, 42, 43], [6, 29, 30, 31, 35, 36, 37, 41, 42, 43, 44], [6, 12, 29, 30, 31, 35, 36, 37, 41, 42, 43], [6, 29, 30, 31, 35, 36, 37, 41, 42, 43], [6, 29, 30, 31, 35, 36, 37, 41, 42, 43], [6, 29, 30, 31, 35, 36, 37], [6, 29, 30, 31], [4, 5]]
def f7H : Array (List Nat) := #[[], [], [2], [], [], [2], [], [], [], [], [], [], [], [], [], [], [], [], [6]]
def f7A : Ann := ⟨fun r => f7K.getD r [], fun r => f7H.getD r [], fun r i => ([] : List (Nat × Nat)).contains (r, i)⟩
theorem f7C : compF Go.Proofs.Tryz.prog f7A 7 = some f7 := by kernel_rfl

/-- switchboard/chunk.Cut -/
abbrev f8o0 : List (Nat × Pop) := [
  (0, ⟨(some 4), .nilv 9 1, none⟩),
  (1, ⟨(some 5), .mv (.c (.t (.b false))), none⟩)]
abbrev f8r0 : Pc := .reg f8o0 [0, 1] [4, 6, 26]
abbrev f8o1 : List (Nat × Pop) := [
  (0, ⟨(some 8), .mv (.tmp 1), none⟩),
  (1, ⟨(some 9), .bin .lss (.tmp 8) (.c (.t (.i .i64 1))), none⟩),
  (2, ⟨(some 10), .mv (.tmp 9), none⟩),
  (3, ⟨(some 11), .mv (.tmp 1), (some (10, false))⟩),
  (4, ⟨(some 12), .bin .gtr (.tmp 11) (.c (.t (.i .i64 64))), (some (10, false))⟩),
  (5, ⟨(some 13), .pick (.tmp 10) (.c (.t (.b true))) (.tmp 12), none⟩)]
abbrev f8r1 : Pc := .reg f8o1 [0, 1, 13] []
abbrev f8o2 : List (Nat × Pop) := [
  (0, ⟨(some 4), .nilv 9 1, none⟩),
  (1, ⟨(some 5), .mv (.c (.t (.b false))), none⟩)]
abbrev f8r2 : Pc := .reg f8o2 [4, 5] []
abbrev f8o3 : List (Nat × Pop) := [
  (0, ⟨(some 6), .nilv 9 1, none⟩)]
abbrev f8r3 : Pc := .reg f8o3 [0, 1, 6] []
abbrev f8o4 : List (Nat × Pop) := [
  (0, ⟨(some 14), .mv (.tmp 0), none⟩),
  (1, ⟨(some 15), .lenS (.tmp 14), none⟩),
  (2, ⟨(some 16), .bin .gtr (.tmp 15) (.c (.t (.i .i64 0))), none⟩)]
abbrev f8r4 : Pc := .reg f8o4 [0, 1, 6, 16] []
abbrev f8o5 : List (Nat × Pop) := [
  (0, ⟨(some 17), .mv (.tmp 1), none⟩),
  (1, ⟨(some 18), .mv (.tmp 0), none⟩),
  (2, ⟨(some 19), .lenS (.tmp 18), none⟩),
  (3, ⟨(some 20), .mm false [(.tmp 17), (.tmp 19)], none⟩),
  (4, ⟨(some 7), .mv (.tmp 20), none⟩)]
abbrev f8r5 : Pc := .reg f8o5 [0, 1, 6, 7] []
abbrev f8o6 : List (Nat × Pop) := [
  (0, ⟨(some 21), .mv (.tmp 6), none⟩),
  (1, ⟨(some 22), .mv (.tmp 0), none⟩),
  (2, ⟨(some 23), .mv (.tmp 7), none⟩),
  (3, ⟨(some 24), .slS (.tmp 22) none (some (.tmp 23)), none⟩),
  (4, ⟨(some 25), .bslT 1 [(.tmp 24)], none⟩),
  (5, ⟨(some 26), .app 9 1 16 (.tmp 21) (.tmp 25), none⟩),
  (6, ⟨(some 6), .mv (.tmp 26), none⟩)]
abbrev f8r6 : Pc := .reg f8o6 [0, 1, 6, 7] []
abbrev f8o7 : List (Nat × Pop) := [
  (0, ⟨(some 27), .mv (.tmp 0), none⟩),
  (1, ⟨(some 28), .mv (.tmp 7), none⟩),
  (2, ⟨(some 29), .slS (.tmp 27) (some (.tmp 28)) none, none⟩),
  (3, ⟨(some 0), .mv (.tmp 29), none⟩)]
abbrev f8r7 : Pc := .reg f8o7 [0, 1, 6] []
def f8l0 : Pc := (.seq (.seq f8r4 (.cond (.tmp 16) .skip (.exit 0))) (.block 1 (.seq f8r5 (.seq f8r6 f8r7))))
theorem f8l0e (C : Cfg) (s : St) : evL C f8l0 s = evL C (.seq (.seq f8r4 (.cond (.tmp 16) .skip (.exit 0))) (.block 1 (.seq f8r5 (.seq f8r6 f8r7)))) s := rfl
abbrev f8o8 : List (Nat × Pop) := [
  (0, ⟨(some 30), .mv (.tmp 6), none⟩),
  (1, ⟨(some 4), .mv (.tmp 30), none⟩),
  (2, ⟨(some 5), .mv (.c (.t (.b true))), none⟩)]
abbrev f8r8 : Pc := .reg f8o8 [4, 5] []
abbrev f8b : Pc := (.seq f8r0 (.seq (.seq f8r1 (.cond (.tmp 13) (.seq f8r2 .ret) .skip)) (.seq f8r3 (.seq (.block 0 (.loop f8l0)) (.seq f8r8 .ret)))))
abbrev f8 : Pfn := ⟨2, 31, [.tmp 4, .tmp 5], f8b⟩
def f8K : Array (List Nat) := #[[0, 1], [0, 1, 13], [4, 5], [0, 1, 6], [0, 1, 6, 16], [0, 1, 6, 7], [0, 1, 6, 7], [0, 1, 6], [4, 5]]
def f8H : Array (List Nat) := #[[4, 6, 26], [], [], [], [], [], [], [], []]
def f8A : Ann := ⟨fun r => f8K.getD r [], fun r => f8H.getD r [], fun r i => ([] : List (Nat × Nat)).contains (r, i)⟩
theorem f8C : compF Go.Proofs.Tryz.prog f8A 8 = some f8 := by kernel_rfl

/-- switchboard/port.Send -/
abbrev f9o0 : List (Nat × Pop) := [
  (0, ⟨(some 2), .box 42 4 (.tmp 0), none⟩),
  (1, ⟨(some 4), .alloc 42 [(.t (.i .i64 0)), .nl, (.t (.i .i64 0)), .nl], none⟩),
  (2, ⟨(some 5), .mv (.c (.t (.s []))), none⟩),
  (3, ⟨(some 6), .mv (.c (.t (.i .i64 0))), none⟩)]
abbrev f9r0 : Pc := .reg f9o0 [1, 2, 4] []
abbrev f9o1 : List (Nat × Pop) := [
  (0, ⟨(some 14), .fad 0 (.tmp 2), none⟩),
  (1, ⟨(some 15), .load true 2 (.tmp 14), none⟩),
  (2, ⟨(some 16), .mv (.tmp 1), none⟩),
  (3, ⟨(some 17), .call 22 [(.tmp 15), (.tmp 16)], none⟩),
  (4, ⟨(some 13), .mv (.tmp 17), none⟩),
  (5, ⟨(some 18), .ext 0 (.tmp 13), none⟩),
  (6, ⟨(some 19), .ext 1 (.tmp 13), none⟩),
  (7, ⟨(some 20), .ext 2 (.tmp 13), none⟩),
  (8, ⟨(some 7), .alloc 37 [(.t (.i .i64 0)), .nl], none⟩),
  (9, ⟨none, .store 2 (.tmp 7) (.tmp 18), none⟩),
  (10, ⟨(some 8), .mv (.tmp 19), none⟩),
  (11, ⟨(some 9), .mv (.tmp 20), none⟩)]
abbrev f9r1 : Pc := .reg f9o1 [1, 2, 4, 7, 8, 9] []
abbrev f9o2 : List (Nat × Pop) := [
  (0, ⟨(some 21), .mv (.tmp 9), none⟩),
  (1, ⟨(some 22), .bin .eql (.tmp 21) (.c (.t (.i .i64 1))), none⟩)]
abbrev f9r2 : Pc := .reg f9o2 [1, 2, 4, 7, 8, 9, 22] []
abbrev f9o3 : List (Nat × Pop) := [
  (0, ⟨(some 23), .load true 4 (.tmp 2), none⟩),
  (1, ⟨(some 24), .mv (.tmp 9), none⟩),
  (2, ⟨none, .store 4 (.tmp 4) (.tmp 23), none⟩),
  (3, ⟨(some 5), .mv (.c (.t (.s []))), none⟩),
  (4, ⟨(some 6), .mv (.tmp 24), none⟩)]
abbrev f9r3 : Pc := .reg f9o3 [4, 5, 6] [2, 7]
abbrev f9o4 : List (Nat × Pop) := [
  (0, ⟨(some 25), .fad 0 (.tmp 2), none⟩),
  (1, ⟨(some 26), .fad 1 (.tmp 25), none⟩),
  (2, ⟨(some 27), .load false 1 (.tmp 26), none⟩),
  (3, ⟨(some 10), .mv (.tmp 27), none⟩)]
abbrev f9r4 : Pc := .reg f9o4 [1, 2, 4, 7, 8, 9, 10] []
abbrev f9o5 : List (Nat × Pop) := [
  (0, ⟨(some 28), .mv (.tmp 10), none⟩),
  (1, ⟨(some 29), .lenL (.tmp 28), none⟩),
  (2, ⟨(some 30), .bin .gtr (.tmp 29) (.c (.t (.i .i64 0))), none⟩),
  (3, ⟨(some 31), .mv (.tmp 30), none⟩),
  (4, ⟨(some 32), .fad 0 (.tmp 2), (some (31, true))⟩),
  (5, ⟨(some 33), .fad 0 (.tmp 32), (some (31, true))⟩),
  (6, ⟨(some 34), .load false 1 (.tmp 33), (some (31, true))⟩),
  (7, ⟨(some 35), .mv (.tmp 10), (some (31, true))⟩),
  (8, ⟨(some 36), .ixS 2 (.tmp 35) (.c (.t (.i .i64 0))), (some (31, true))⟩),
  (9, ⟨(some 37), .fad 0 (.tmp 36), (some (31, true))⟩),
  (10, ⟨(some 38), .load false 1 (.tmp 37), (some (31, true))⟩),
  (11, ⟨(some 39), .bin .sub (.tmp 34) (.tmp 38), (some (31, true))⟩),
  (12, ⟨(some 40), .bin .geq (.tmp 39) (.c (.t (.i .i64 32))), (some (31, true))⟩),
  (13, ⟨(some 41), .pick (.tmp 31) (.tmp 40) (.c (.t (.b false))), none⟩)]
abbrev f9r5 : Pc := .reg f9o5 [1, 2, 4, 7, 8, 9, 41] []
abbrev f9o6 : List (Nat × Pop) := [
  (0, ⟨(some 42), .load true 4 (.tmp 2), none⟩),
  (1, ⟨none, .store 4 (.tmp 4) (.tmp 42), none⟩),
  (2, ⟨(some 5), .mv (.c (.t (.s []))), none⟩),
  (3, ⟨(some 6), .mv (.c (.t (.i .i64 8))), none⟩)]
abbrev f9r6 : Pc := .reg f9o6 [4, 5, 6] [2, 7]
abbrev f9o7 : List (Nat × Pop) := [
  (0, ⟨(some 43), .mv (.tmp 9), none⟩),
  (1, ⟨(some 44), .bin .neq (.tmp 43) (.c (.t (.i .i64 0))), none⟩)]
abbrev f9r7 : Pc := .reg f9o7 [1, 2, 4, 7, 8, 9, 44] []
abbrev f9o8 : List (Nat × Pop) := [
  (0, ⟨(some 45), .load true 4 (.tmp 2), none⟩),
  (1, ⟨(some 46), .mv (.tmp 9), none⟩),
  (2, ⟨none, .store 4 (.tmp 4) (.tmp 45), none⟩),
  (3, ⟨(some 5), .mv (.c (.t (.s []))), none⟩),
  (4, ⟨(some 6), .mv (.tmp 46), none⟩)]
abbrev f9r8 : Pc := .reg f9o8 [4, 5, 6] [2, 7]
abbrev f9o9 : List (Nat × Pop) := [
  (0, ⟨(some 47), .load true 2 (.tmp 7), none⟩),
  (1, ⟨(some 48), .fad 0 (.tmp 2), none⟩),
  (2, ⟨none, .store 2 (.tmp 48) (.tmp 47), none⟩)]
abbrev f9r9 : Pc := .reg f9o9 [1, 2, 4, 8] [7]
abbrev f9o10 : List (Nat × Pop) := [
  (0, ⟨(some 50), .mv (.tmp 8), none⟩),
  (1, ⟨(some 51), .mv (.tmp 1), none⟩),
  (2, ⟨(some 52), .call 23 [(.c (.t (.i .u8 68))), (.tmp 50), (.tmp 51)], none⟩),
  (3, ⟨(some 49), .mv (.tmp 52), none⟩),
  (4, ⟨(some 53), .ext 0 (.tmp 49), none⟩),
  (5, ⟨(some 54), .ext 1 (.tmp 49), none⟩),
  (6, ⟨(some 11), .mv (.tmp 53), none⟩),
  (7, ⟨(some 12), .mv (.tmp 54), none⟩)]
abbrev f9r10 : Pc := .reg f9o10 [2, 4, 11] []
abbrev f9o11 : List (Nat × Pop) := [
  (0, ⟨(some 55), .load true 4 (.tmp 2), none⟩),
  (1, ⟨(some 56), .mv (.tmp 11), none⟩),
  (2, ⟨none, .store 4 (.tmp 4) (.tmp 55), none⟩),
  (3, ⟨(some 5), .mv (.tmp 56), none⟩),
  (4, ⟨(some 6), .mv (.c (.t (.i .i64 0))), none⟩)]
abbrev f9r11 : Pc := .reg f9o11 [4, 5, 6] [2]
abbrev f9b : Pc := (.seq f9r0 (.seq f9r1 (.seq (.seq f9r2 (.cond (.tmp 22) (.seq f9r3 .ret) .skip)) (.seq (.seq f9r4 (.seq f9r5 (.cond (.tmp 41) (.seq f9r6 .ret) .skip))) (.seq (.seq f9r7 (.cond (.tmp 44) (.seq f9r8 .ret) .skip)) (.seq f9r9 (.seq f9r10 (.seq f9r11 .ret))))))))
abbrev f9 : Pfn := ⟨2, 57, [.cell 4 true 4, .tmp 5, .tmp 6], f9b⟩
def f9K : Array (List Nat) := #[[1, 2, 4], [1, 2, 4, 7, 8, 9], [1, 2, 4, 7, 8, 9, 22], [4, 5, 6], [1, 2, 4, 7, 8, 9, 10], [1, 2, 4, 7, 8, 9, 41], [4, 5, 6], [1, 2, 4, 7, 8, 9, 44], [4, 5, 6], [1, 2, 4, 8], [2, 4, 11], [4, 5, 6]]
def f9H : Array (List Nat) := #[[], [], [], [2, 7], [], [], [2, 7], [], [2, 7], [7], [], [2]]
def f9A : Ann := ⟨fun r => f9K.getD r [], fun r => f9H.getD r [], fun r i => ([] : List (Nat × Nat)).contains (r, i)⟩
theorem f9C : compF Go.Proofs.Tryz.prog f9A 9 = some f9 := by kernel_rfl

/-- switchboard/port.Receive -/
abbrev f10o0 : List (Nat × Pop) := [
  (0, ⟨(some 2), .box 42 4 (.tmp 0), none⟩),
  (1, ⟨(some 4), .alloc 42 [(.t (.i .i64 0)), .nl, (.t (.i .i64 0)), .nl], none⟩),
  (2, ⟨(some 5), .mv (.c (.t (.s []))), none⟩),
  (3, ⟨(some 6), .mv (.c (.t (.b false))), none⟩),
  (4, ⟨(some 7), .mv (.c (.t (.s []))), none⟩),
  (5, ⟨(some 8), .mv (.c (.t (.i .i64 0))), none⟩)]
abbrev f10r0 : Pc := .reg f10o0 [1, 2, 4] []
abbrev f10o1 : List (Nat × Pop) := [
  (0, ⟨(some 18), .mv (.tmp 1), none⟩),
  (1, ⟨(some 19), .call 24 [(.tmp 18)], none⟩),
  (2, ⟨(some 17), .mv (.tmp 19), none⟩),
  (3, ⟨(some 20), .ext 0 (.tmp 17), none⟩),
  (4, ⟨(some 21), .ext 1 (.tmp 17), none⟩),
  (5, ⟨(some 22), .ext 2 (.tmp 17), none⟩),
  (6, ⟨(some 23), .ext 3 (.tmp 17), none⟩),
  (7, ⟨(some 9), .mv (.tmp 20), none⟩),
  (8, ⟨(some 10), .mv (.tmp 21), none⟩),
  (9, ⟨(some 11), .mv (.tmp 22), none⟩),
  (10, ⟨(some 12), .mv (.tmp 23), none⟩)]
abbrev f10r1 : Pc := .reg f10o1 [2, 4, 9, 10, 11, 12] []
abbrev f10o2 : List (Nat × Pop) := [
  (0, ⟨(some 24), .mv (.tmp 12), none⟩),
  (1, ⟨(some 25), .bin .neq (.tmp 24) (.c (.t (.i .i64 0))), none⟩)]
abbrev f10r2 : Pc := .reg f10o2 [2, 4, 9, 10, 11, 12, 25] []
abbrev f10o3 : List (Nat × Pop) := [
  (0, ⟨(some 26), .load true 4 (.tmp 2), none⟩),
  (1, ⟨(some 27), .mv (.tmp 12), none⟩),
  (2, ⟨none, .store 4 (.tmp 4) (.tmp 26), none⟩),
  (3, ⟨(some 5), .mv (.c (.t (.s []))), none⟩),
  (4, ⟨(some 6), .mv (.c (.t (.b false))), none⟩),
  (5, ⟨(some 7), .mv (.c (.t (.s []))), none⟩),
  (6, ⟨(some 8), .mv (.tmp 27), none⟩)]
abbrev f10r3 : Pc := .reg f10o3 [4, 5, 6, 7, 8] [2]
abbrev f10o4 : List (Nat × Pop) := [
  (0, ⟨(some 28), .mv (.tmp 9), none⟩),
  (1, ⟨(some 29), .bin .eql (.tmp 28) (.c (.t (.i .u8 65))), none⟩)]
abbrev f10r4 : Pc := .reg f10o4 [2, 4, 10, 11, 29] []
abbrev f10o5 : List (Nat × Pop) := [
  (0, ⟨(some 30), .fad 0 (.tmp 2), none⟩),
  (1, ⟨(some 31), .load true 2 (.tmp 30), none⟩),
  (2, ⟨(some 32), .mv (.tmp 10), none⟩),
  (3, ⟨(some 33), .call 25 [(.tmp 31), (.tmp 32)], none⟩),
  (4, ⟨(some 34), .fad 0 (.tmp 2), none⟩),
  (5, ⟨none, .store 2 (.tmp 34) (.tmp 33), none⟩)]
abbrev f10r5 : Pc := .reg f10o5 [2, 4] []
abbrev f10o6 : List (Nat × Pop) := [
  (0, ⟨(some 35), .load true 4 (.tmp 2), none⟩),
  (1, ⟨none, .store 4 (.tmp 4) (.tmp 35), none⟩),
  (2, ⟨(some 5), .mv (.c (.t (.s []))), none⟩),
  (3, ⟨(some 6), .mv (.c (.t (.b false))), none⟩),
  (4, ⟨(some 7), .mv (.c (.t (.s []))), none⟩),
  (5, ⟨(some 8), .mv (.c (.t (.i .i64 0))), none⟩)]
abbrev f10r6 : Pc := .reg f10o6 [4, 5, 6, 7, 8] [2]
abbrev f10o7 : List (Nat × Pop) := [
  (0, ⟨(some 37), .mv (.tmp 10), none⟩),
  (1, ⟨(some 38), .call 23 [(.c (.t (.i .u8 65))), (.tmp 37), (.c (.t (.s [])))], none⟩),
  (2, ⟨(some 36), .mv (.tmp 38), none⟩),
  (3, ⟨(some 39), .ext 0 (.tmp 36), none⟩),
  (4, ⟨(some 40), .ext 1 (.tmp 36), none⟩),
  (5, ⟨(some 13), .mv (.tmp 39), none⟩),
  (6, ⟨(some 14), .mv (.tmp 40), none⟩)]
abbrev f10r7 : Pc := .reg f10o7 [2, 4, 10, 11, 13] []
abbrev f10o8 : List (Nat × Pop) := [
  (0, ⟨(some 42), .fad 2 (.tmp 2), none⟩),
  (1, ⟨(some 43), .load true 2 (.tmp 42), none⟩),
  (2, ⟨(some 44), .mv (.tmp 10), none⟩),
  (3, ⟨(some 45), .call 26 [(.tmp 43), (.tmp 44)], none⟩),
  (4, ⟨(some 41), .mv (.tmp 45), none⟩),
  (5, ⟨(some 46), .ext 0 (.tmp 41), none⟩),
  (6, ⟨(some 47), .ext 1 (.tmp 41), none⟩),
  (7, ⟨(some 15), .alloc 40 [(.t (.i .i64 0)), .nl], none⟩),
  (8, ⟨none, .store 2 (.tmp 15) (.tmp 46), none⟩),
  (9, ⟨(some 16), .mv (.tmp 47), none⟩)]
abbrev f10r8 : Pc := .reg f10o8 [2, 4, 11, 13, 15, 16] []
abbrev f10o9 : List (Nat × Pop) := [
  (0, ⟨(some 48), .mv (.tmp 16), none⟩),
  (1, ⟨(some 49), .un .not (.tmp 48), none⟩)]
abbrev f10r9 : Pc := .reg f10o9 [2, 4, 11, 13, 15, 49] []
abbrev f10o10 : List (Nat × Pop) := [
  (0, ⟨(some 50), .load true 4 (.tmp 2), none⟩),
  (1, ⟨(some 51), .mv (.tmp 13), none⟩),
  (2, ⟨none, .store 4 (.tmp 4) (.tmp 50), none⟩),
  (3, ⟨(some 5), .mv (.c (.t (.s []))), none⟩),
  (4, ⟨(some 6), .mv (.c (.t (.b false))), none⟩),
  (5, ⟨(some 7), .mv (.tmp 51), none⟩),
  (6, ⟨(some 8), .mv (.c (.t (.i .i64 0))), none⟩)]
abbrev f10r10 : Pc := .reg f10o10 [4, 5, 6, 7, 8] [2, 15]
abbrev f10o11 : List (Nat × Pop) := [
  (0, ⟨(some 52), .load true 2 (.tmp 15), none⟩),
  (1, ⟨(some 53), .fad 2 (.tmp 2), none⟩),
  (2, ⟨none, .store 2 (.tmp 53) (.tmp 52), none⟩)]
abbrev f10r11 : Pc := .reg f10o11 [2, 4, 11, 13] [15]
abbrev f10o12 : List (Nat × Pop) := [
  (0, ⟨(some 54), .load true 4 (.tmp 2), none⟩),
  (1, ⟨(some 55), .mv (.tmp 11), none⟩),
  (2, ⟨(some 56), .mv (.tmp 13), none⟩),
  (3, ⟨none, .store 4 (.tmp 4) (.tmp 54), none⟩),
  (4, ⟨(some 5), .mv (.tmp 55), none⟩),
  (5, ⟨(some 6), .mv (.c (.t (.b true))), none⟩),
  (6, ⟨(some 7), .mv (.tmp 56), none⟩),
  (7, ⟨(some 8), .mv (.c (.t (.i .i64 0))), none⟩)]
abbrev f10r12 : Pc := .reg f10o12 [4, 5, 6, 7, 8] [2]
abbrev f10b : Pc := (.seq f10r0 (.seq f10r1 (.seq (.seq f10r2 (.cond (.tmp 25) (.seq f10r3 .ret) .skip)) (.seq (.seq f10r4 (.cond (.tmp 29) (.seq f10r5 (.seq f10r6 .ret)) .skip)) (.seq f10r7 (.seq f10r8 (.seq (.seq f10r9 (.cond (.tmp 49) (.seq f10r10 .ret) .skip)) (.seq f10r11 (.seq f10r12 .ret)))))))))
abbrev f10 : Pfn := ⟨2, 57, [.cell 4 true 4, .tmp 5, .tmp 6, .tmp 7, .tmp 8], f10b⟩
def f10K : Array (List Nat) := #[[1, 2, 4], [2, 4, 9, 10, 11, 12], [2, 4, 9, 10, 11, 12, 25], [4, 5, 6, 7, 8], [2, 4, 10, 11, 29], [2, 4], [4, 5, 6, 7, 8], [2, 4, 10, 11, 13], [2, 4, 11, 13, 15, 16], [2, 4, 11, 13, 15, 49], [4, 5, 6, 7, 8], [2, 4, 11, 13], [4, 5, 6, 7, 8]]
def f10H : Array (List Nat) := #[[], [], [], [2], [], [], [2], [], [], [], [2, 15], [15], [2]]
def f10A : Ann := ⟨fun r => f10K.getD r [], fun r => f10H.getD r [], fun r i => ([] : List (Nat × Nat)).contains (r, i)⟩
theorem f10C : compF Go.Proofs.Tryz.prog f10A 10 = some f10 := by kernel_rfl

/-- switchboard/port.Again -/
abbrev f11o0 : List (Nat × Pop) := [
  (0, ⟨(some 1), .box 42 4 (.tmp 0), none⟩),
  (1, ⟨(some 2), .nilv 9 1, none⟩)]
abbrev f11r0 : Pc := .reg f11o0 [1] [2, 3, 29]
abbrev f11o1 : List (Nat × Pop) := [
  (0, ⟨(some 3), .nilv 9 1, none⟩)]
abbrev f11r1 : Pc := .reg f11o1 [1, 3] []
abbrev f11o2 : List (Nat × Pop) := [
  (0, ⟨(some 8), .fad 0 (.tmp 1), none⟩),
  (1, ⟨(some 9), .fad 1 (.tmp 8), none⟩),
  (2, ⟨(some 10), .load false 1 (.tmp 9), none⟩),
  (3, ⟨(some 11), .lenL (.tmp 10), none⟩),
  (4, ⟨(some 12), .mv (.c (.t (.i .i64 0))), none⟩)]
abbrev f11r2 : Pc := .reg f11o2 [3, 10, 11, 12] [1]
abbrev f11o3 : List (Nat × Pop) := [
  (0, ⟨(some 13), .bin .lss (.tmp 12) (.tmp 11), none⟩)]
abbrev f11r3 : Pc := .reg f11o3 [3, 10, 11, 12, 13] []
abbrev f11o4 : List (Nat × Pop) := [
  (0, ⟨(some 14), .ixS 2 (.tmp 10) (.tmp 12), none⟩),
  (1, ⟨(some 15), .load true 2 (.tmp 14), none⟩),
  (2, ⟨(some 5), .alloc 77 [(.t (.i .i64 0)), (.t (.s []))], none⟩),
  (3, ⟨none, .store 2 (.tmp 5) (.tmp 15), none⟩)]
abbrev f11r4 : Pc := .reg f11o4 [3, 5, 10, 11, 12] []
abbrev f11o5 : List (Nat × Pop) := [
  (0, ⟨(some 17), .fad 0 (.tmp 5), none⟩),
  (1, ⟨(some 18), .load false 1 (.tmp 17), none⟩),
  (2, ⟨(some 19), .fad 1 (.tmp 5), none⟩),
  (3, ⟨(some 20), .load false 1 (.tmp 19), none⟩),
  (4, ⟨(some 21), .call 23 [(.c (.t (.i .u8 68))), (.tmp 18), (.tmp 20)], none⟩),
  (5, ⟨(some 16), .mv (.tmp 21), none⟩),
  (6, ⟨(some 22), .ext 0 (.tmp 16), none⟩),
  (7, ⟨(some 23), .ext 1 (.tmp 16), none⟩),
  (8, ⟨(some 6), .mv (.tmp 22), none⟩),
  (9, ⟨(some 7), .mv (.tmp 23), none⟩)]
abbrev f11r5 : Pc := .reg f11o5 [3, 6, 7, 10, 11, 12] [5]
abbrev f11o6 : List (Nat × Pop) := [
  (0, ⟨(some 24), .mv (.tmp 7), none⟩),
  (1, ⟨(some 25), .bin .eql (.tmp 24) (.c (.t (.i .i64 0))), none⟩)]
abbrev f11r6 : Pc := .reg f11o6 [3, 6, 10, 11, 12, 25] []
abbrev f11o7 : List (Nat × Pop) := [
  (0, ⟨(some 26), .mv (.tmp 3), none⟩),
  (1, ⟨(some 27), .mv (.tmp 6), none⟩),
  (2, ⟨(some 28), .bslT 1 [(.tmp 27)], none⟩),
  (3, ⟨(some 29), .app 9 1 16 (.tmp 26) (.tmp 28), none⟩),
  (4, ⟨(some 3), .mv (.tmp 29), none⟩)]
abbrev f11r7 : Pc := .reg f11o7 [3, 10, 11, 12] []
abbrev f11o8 : List (Nat × Pop) := [
  (0, ⟨(some 30), .bin .add (.tmp 12) (.c (.t (.i .i64 1))), none⟩),
  (1, ⟨(some 12), .mv (.tmp 30), none⟩)]
abbrev f11r8 : Pc := .reg f11o8 [3, 10, 11, 12] []
def f11l0 : Pc := (.seq f11r3 (.seq (.cond (.tmp 13) .skip (.exit 0)) (.seq (.block 1 (.seq f11r4 (.seq f11r5 (.seq f11r6 (.cond (.tmp 25) f11r7 .skip))))) f11r8)))
theorem f11l0e (C : Cfg) (s : St) : evL C f11l0 s = evL C (.seq f11r3 (.seq (.cond (.tmp 13) .skip (.exit 0)) (.seq (.block 1 (.seq f11r4 (.seq f11r5 (.seq f11r6 (.cond (.tmp 25) f11r7 .skip))))) f11r8))) s := rfl
abbrev f11o9 : List (Nat × Pop) := [
  (0, ⟨(some 31), .mv (.tmp 3), none⟩),
  (1, ⟨(some 2), .mv (.tmp 31), none⟩)]
abbrev f11r9 : Pc := .reg f11o9 [2] []
abbrev f11b : Pc := (.seq f11r0 (.seq f11r1 (.seq (.seq f11r2 (.block 0 (.loop f11l0))) (.seq f11r9 .ret))))
abbrev f11 : Pfn := ⟨1, 32, [.tmp 2], f11b⟩
def f11K : Array (List Nat) := #[[1], [1, 3], [3, 10, 11, 12], [3, 10, 11, 12, 13], [3, 5, 10, 11, 12], [3, 6, 7, 10, 11, 12], [3, 6, 10, 11, 12, 25], [3, 10, 11, 12], [3, 10, 11, 12], [2]]
def f11H : Array (List Nat) := #[[2, 3, 29], [], [1], [], [], [5], [], [], [], []]
def f11A : Ann := ⟨fun r => f11K.getD r [], fun r => f11H.getD r [], fun r i => ([] : List (Nat × Nat)).contains (r, i)⟩
theorem f11C : compF Go.Proofs.Tryz.prog f11A 11 = some f11 := by kernel_rfl

/-- switchboard/chunk.Import -/
abbrev f12o0 : List (Nat × Pop) := [
  (0, ⟨(some 2), .alloc 24 [.nl, .nl], none⟩),
  (1, ⟨(some 3), .mv (.c (.t (.i .i64 0))), none⟩),
  (2, ⟨(some 4), .mv (.c (.t (.i .i64 0))), none⟩)]
abbrev f12r0 : Pc := .reg f12o0 [0, 2] []
abbrev f12o1 : List (Nat × Pop) := [
  (0, ⟨(some 9), .mv (.tmp 0), none⟩),
  (1, ⟨(some 10), .lenS (.tmp 9), none⟩),
  (2, ⟨(some 11), .bin .lss (.tmp 10) (.c (.t (.i .i64 12))), none⟩),
  (3, ⟨(some 12), .mv (.tmp 11), none⟩),
  (4, ⟨(some 13), .mv (.tmp 0), (some (12, false))⟩),
  (5, ⟨(some 14), .lenS (.tmp 13), (some (12, false))⟩),
  (6, ⟨(some 15), .bin .rem (.tmp 14) (.c (.t (.i .i64 4))), (some (12, false))⟩),
  (7, ⟨(some 16), .bin .neq (.tmp 15) (.c (.t (.i .i64 0))), (some (12, false))⟩),
  (8, ⟨(some 17), .pick (.tmp 12) (.c (.t (.b true))) (.tmp 16), none⟩)]
abbrev f12r1 : Pc := .reg f12o1 [0, 2, 17] []
abbrev f12o2 : List (Nat × Pop) := [
  (0, ⟨(some 18), .build [.nl, .nl] [], none⟩),
  (1, ⟨none, .store 2 (.tmp 2) (.tmp 18), none⟩),
  (2, ⟨(some 3), .mv (.c (.t (.i .i64 0))), none⟩),
  (3, ⟨(some 4), .mv (.c (.t (.i .i64 2))), none⟩)]
abbrev f12r2 : Pc := .reg f12o2 [2, 3, 4] []
abbrev f12o3 : List (Nat × Pop) := [
  (0, ⟨(some 19), .mv (.tmp 0), none⟩),
  (1, ⟨(some 20), .lenS (.tmp 19), none⟩),
  (2, ⟨(some 21), .bin .sub (.tmp 20) (.c (.t (.i .i64 4))), none⟩),
  (3, ⟨(some 5), .mv (.tmp 21), none⟩)]
abbrev f12r3 : Pc := .reg f12o3 [0, 2, 5] []
abbrev f12o4 : List (Nat × Pop) := [
  (0, ⟨(some 22), .mv (.tmp 0), none⟩),
  (1, ⟨(some 23), .mv (.tmp 5), none⟩),
  (2, ⟨(some 24), .slS (.tmp 22) (some (.tmp 23)) none, none⟩),
  (3, ⟨(some 25), .mv (.tmp 0), none⟩),
  (4, ⟨(some 26), .mv (.tmp 5), none⟩),
  (5, ⟨(some 27), .slS (.tmp 25) none (some (.tmp 26)), none⟩),
  (6, ⟨(some 28), .callq 21 [(.tmp 27)], none⟩),
  (7, ⟨(some 29), .callq 19 [(.tmp 28)], none⟩),
  (8, ⟨(some 30), .bin .neq (.tmp 24) (.tmp 29), none⟩)]
abbrev f12r4 : Pc := .reg f12o4 [0, 2, 30] []
abbrev f12o5 : List (Nat × Pop) := [
  (0, ⟨(some 31), .build [.nl, .nl] [], none⟩),
  (1, ⟨none, .store 2 (.tmp 2) (.tmp 31), none⟩),
  (2, ⟨(some 3), .mv (.c (.t (.i .i64 0))), none⟩),
  (3, ⟨(some 4), .mv (.c (.t (.i .i64 9))), none⟩)]
abbrev f12r5 : Pc := .reg f12o5 [2, 3, 4] []
abbrev f12o6 : List (Nat × Pop) := [
  (0, ⟨(some 32), .mv (.tmp 0), none⟩),
  (1, ⟨(some 33), .call 27 [(.tmp 32), (.c (.t (.i .i64 0)))], none⟩),
  (2, ⟨(some 34), .mv (.tmp 0), none⟩),
  (3, ⟨(some 35), .call 27 [(.tmp 34), (.c (.t (.i .i64 1)))], none⟩),
  (4, ⟨(some 6), .mv (.tmp 33), none⟩),
  (5, ⟨(some 7), .mv (.tmp 35), none⟩)]
abbrev f12r6 : Pc := .reg f12o6 [0, 2, 6, 7] []
abbrev f12o7 : List (Nat × Pop) := [
  (0, ⟨(some 36), .mv (.tmp 6), none⟩),
  (1, ⟨(some 37), .bin .lss (.tmp 36) (.c (.t (.i .i64 1))), none⟩),
  (2, ⟨(some 38), .mv (.tmp 37), none⟩),
  (3, ⟨(some 39), .mv (.tmp 6), (some (38, false))⟩),
  (4, ⟨(some 40), .bin .gtr (.tmp 39) (.c (.t (.i .i64 8))), (some (38, false))⟩),
  (5, ⟨(some 41), .pick (.tmp 38) (.c (.t (.b true))) (.tmp 40), none⟩),
  (6, ⟨(some 42), .mv (.tmp 41), none⟩),
  (7, ⟨(some 43), .mv (.tmp 7), (some (42, false))⟩),
  (8, ⟨(some 44), .bin .lss (.tmp 43) (.c (.t (.i .i64 1))), (some (42, false))⟩),
  (9, ⟨(some 45), .pick (.tmp 42) (.c (.t (.b true))) (.tmp 44), none⟩),
  (10, ⟨(some 46), .mv (.tmp 45), none⟩),
  (11, ⟨(some 47), .mv (.tmp 7), (some (46, false))⟩),
  (12, ⟨(some 48), .bin .gtr (.tmp 47) (.c (.t (.i .i64 8))), (some (46, false))⟩),
  (13, ⟨(some 49), .pick (.tmp 46) (.c (.t (.b true))) (.tmp 48), none⟩),
  (14, ⟨(some 50), .mv (.tmp 49), none⟩),
  (15, ⟨(some 51), .mv (.tmp 0), (some (50, false))⟩),
  (16, ⟨(some 52), .lenS (.tmp 51), (some (50, false))⟩),
  (17, ⟨(some 53), .mv (.tmp 6), (some (50, false))⟩),
  (18, ⟨(some 54), .bin .mul (.c (.t (.i .i64 2))) (.tmp 53), (some (50, false))⟩),
  (19, ⟨(some 55), .mv (.tmp 7), (some (50, false))⟩),
  (20, ⟨(some 56), .bin .mul (.tmp 54) (.tmp 55), (some (50, false))⟩),
  (21, ⟨(some 57), .bin .add (.c (.t (.i .i64 3))) (.tmp 56), (some (50, false))⟩),
  (22, ⟨(some 58), .bin .mul (.c (.t (.i .i64 4))) (.tmp 57), (some (50, false))⟩),
  (23, ⟨(some 59), .bin .neq (.tmp 52) (.tmp 58), (some (50, false))⟩),
  (24, ⟨(some 60), .pick (.tmp 50) (.c (.t (.b true))) (.tmp 59), none⟩)]
abbrev f12r7 : Pc := .reg f12o7 [0, 2, 6, 7, 60] []
abbrev f12o8 : List (Nat × Pop) := [
  (0, ⟨(some 61), .build [.nl, .nl] [], none⟩),
  (1, ⟨none, .store 2 (.tmp 2) (.tmp 61), none⟩),
  (2, ⟨(some 3), .mv (.c (.t (.i .i64 0))), none⟩),
  (3, ⟨(some 4), .mv (.c (.t (.i .i64 2))), none⟩)]
abbrev f12r8 : Pc := .reg f12o8 [2, 3, 4] []
abbrev f12o9 : List (Nat × Pop) := [
  (0, ⟨(some 62), .mv (.tmp 0), none⟩),
  (1, ⟨(some 63), .mv (.tmp 6), none⟩),
  (2, ⟨(some 64), .mv (.tmp 7), none⟩),
  (3, ⟨(some 65), .call 28 [(.tmp 62), (.c (.t (.i .i64 2))), (.tmp 63), (.tmp 64)], none⟩),
  (4, ⟨(some 66), .mv (.tmp 0), none⟩),
  (5, ⟨(some 67), .mv (.tmp 6), none⟩),
  (6, ⟨(some 68), .mv (.tmp 7), none⟩),
  (7, ⟨(some 69), .bin .mul (.tmp 67) (.tmp 68), none⟩),
  (8, ⟨(some 70), .bin .add (.c (.t (.i .i64 2))) (.tmp 69), none⟩),
  (9, ⟨(some 71), .mv (.tmp 7), none⟩),
  (10, ⟨(some 72), .mv (.tmp 6), none⟩),
  (11, ⟨(some 73), .call 28 [(.tmp 66), (.tmp 70), (.tmp 71), (.tmp 72)], none⟩),
  (12, ⟨(some 74), .build [.nl, .nl] [(0, 1, (.tmp 65)), (1, 1, (.tmp 73))], none⟩),
  (13, ⟨(some 8), .alloc 24 [.nl, .nl], none⟩),
  (14, ⟨none, .store 2 (.tmp 8) (.tmp 74), none⟩)]
abbrev f12r9 : Pc := .reg f12o9 [2, 7, 8] []
abbrev f12o10 : List (Nat × Pop) := [
  (0, ⟨(some 75), .load true 2 (.tmp 8), none⟩),
  (1, ⟨(some 76), .mv (.tmp 7), none⟩),
  (2, ⟨(some 77), .call 17 [(.tmp 75), (.tmp 76)], none⟩),
  (3, ⟨(some 78), .un .not (.tmp 77), none⟩)]
abbrev f12r10 : Pc := .reg f12o10 [2, 7, 8, 78] []
abbrev f12o11 : List (Nat × Pop) := [
  (0, ⟨(some 79), .build [.nl, .nl] [], none⟩),
  (1, ⟨none, .store 2 (.tmp 2) (.tmp 79), none⟩),
  (2, ⟨(some 3), .mv (.c (.t (.i .i64 0))), none⟩),
  (3, ⟨(some 4), .mv (.c (.t (.i .i64 2))), none⟩)]
abbrev f12r11 : Pc := .reg f12o11 [2, 3, 4] [8]
abbrev f12o12 : List (Nat × Pop) := [
  (0, ⟨(some 80), .load true 2 (.tmp 8), none⟩),
  (1, ⟨(some 81), .mv (.tmp 7), none⟩),
  (2, ⟨none, .store 2 (.tmp 2) (.tmp 80), none⟩),
  (3, ⟨(some 3), .mv (.tmp 81), none⟩),
  (4, ⟨(some 4), .mv (.c (.t (.i .i64 0))), none⟩)]
abbrev f12r12 : Pc := .reg f12o12 [2, 3, 4] [8]
abbrev f12b : Pc := (.seq f12r0 (.seq (.seq f12r1 (.cond (.tmp 17) (.seq f12r2 .ret) .skip)) (.seq f12r3 (.seq (.seq f12r4 (.cond (.tmp 30) (.seq f12r5 .ret) .skip)) (.seq f12r6 (.seq (.seq f12r7 (.cond (.tmp 60) (.seq f12r8 .ret) .skip)) (.seq f12r9 (.seq (.seq f12r10 (.cond (.tmp 78) (.seq f12r11 .ret) .skip)) (.seq f12r12 .ret)))))))))
abbrev f12 : Pfn := ⟨1, 82, [.cell 2 true 2, .tmp 3, .tmp 4], f12b⟩
def f12K : Array (List Nat) := #[[0, 2], [0, 2, 17], [2, 3, 4], [0, 2, 5], [0, 2, 30], [2, 3, 4], [0, 2, 6, 7], [0, 2, 6, 7, 60], [2, 3, 4], [2, 7, 8], [2, 7, 8, 78], [2, 3, 4], [2, 3, 4]]
def f12H : Array (List Nat) := #[[], [], [], [], [], [], [], [], [], [], [], [8], [8]]
def f12A : Ann := ⟨fun r => f12K.getD r [], fun r => f12H.getD r [], fun r i => ([] : List (Nat × Nat)).contains (r, i)⟩
theorem f12C : compF Go.Proofs.Tryz.prog f12A 12 = some f12 := by kernel_rfl

/-- switchboard/chunk.Join -/
abbrev f13o0 : List (Nat × Pop) := [
  (0, ⟨(some 2), .mv (.c (.t (.s []))), none⟩)]
abbrev f13r0 : Pc := .reg f13o0 [0] []
abbrev f13o1 : List (Nat × Pop) := [
  (0, ⟨(some 3), .mv (.tmp 0), none⟩),
  (1, ⟨(some 4), .call 29 [(.tmp 3), (.c (.t (.s [])))], none⟩),
  (2, ⟨(some 2), .mv (.tmp 4), none⟩)]
abbrev f13r1 : Pc := .reg f13o1 [2] []
abbrev f13b : Pc := (.seq f13r0 (.seq f13r1 .ret))
abbrev f13 : Pfn := ⟨1, 5, [.tmp 2], f13b⟩
def f13K : Array (List Nat) := #[[0], [2]]
def f13H : Array (List Nat) := #[[], []]
def f13A : Ann := ⟨fun r => f13K.getD r [], fun r => f13H.getD r [], fun r i => ([] : List (Nat × Nat)).contains (r, i)⟩
theorem f13C : compF Go.Proofs.Tryz.prog f13A 13 = some f13 := by kernel_rfl

/-- switchboard/switchboardref15.Same -/
abbrev f14o0 : List (Nat × Pop) := [
  (0, ⟨(some 4), .mv (.c (.t (.b false))), none⟩)]
abbrev f14r0 : Pc := .reg f14o0 [0, 1] []
abbrev f14o1 : List (Nat × Pop) := [
  (0, ⟨(some 6), .mv (.tmp 0), none⟩),
  (1, ⟨(some 7), .lenL (.tmp 6), none⟩),
  (2, ⟨(some 8), .mv (.tmp 1), none⟩),
  (3, ⟨(some 9), .lenL (.tmp 8), none⟩),
  (4, ⟨(some 10), .bin .neq (.tmp 7) (.tmp 9), none⟩)]
abbrev f14r1 : Pc := .reg f14o1 [0, 1, 10] []
abbrev f14o2 : List (Nat × Pop) := [
  (0, ⟨(some 4), .mv (.c (.t (.b false))), none⟩)]
abbrev f14r2 : Pc := .reg f14o2 [4] []
abbrev f14o3 : List (Nat × Pop) := [
  (0, ⟨(some 5), .mv (.c (.t (.i .i64 0))), none⟩)]
abbrev f14r3 : Pc := .reg f14o3 [0, 1, 5] []
abbrev f14o4 : List (Nat × Pop) := [
  (0, ⟨(some 11), .mv (.tmp 5), none⟩),
  (1, ⟨(some 12), .mv (.tmp 0), none⟩),
  (2, ⟨(some 13), .lenL (.tmp 12), none⟩),
  (3, ⟨(some 14), .bin .lss (.tmp 11) (.tmp 13), none⟩)]
abbrev f14r4 : Pc := .reg f14o4 [0, 1, 5, 14] []
abbrev f14o6 : List (Nat × Pop) := [
  (0, ⟨(some 17), .mv (.tmp 0), none⟩),
  (1, ⟨(some 18), .mv (.tmp 5), none⟩),
  (2, ⟨(some 19), .ixS 1 (.tmp 17) (.tmp 18), none⟩),
  (3, ⟨(some 20), .load false 1 (.tmp 19), none⟩),
  (4, ⟨(some 21), .mv (.tmp 1), none⟩),
  (5, ⟨(some 22), .mv (.tmp 5), none⟩),
  (6, ⟨(some 23), .ixS 1 (.tmp 21) (.tmp 22), none⟩),
  (7, ⟨(some 24), .load false 1 (.tmp 23), none⟩),
  (8, ⟨(some 25), .callq 30 [(.tmp 20), (.tmp 24)], none⟩),
  (9, ⟨(some 26), .un .not (.tmp 25), none⟩)]
abbrev f14r6 : Pc := .reg f14o6 [0, 1, 5, 26] []
abbrev f14o7 : List (Nat × Pop) := [
  (0, ⟨(some 4), .mv (.c (.t (.b false))), none⟩)]
abbrev f14r7 : Pc := .reg f14o7 [4] []
abbrev f14o5 : List (Nat × Pop) := [
  (0, ⟨(some 15), .mv (.tmp 5), none⟩),
  (1, ⟨(some 16), .bin .add (.tmp 15) (.c (.t (.i .i64 1))), none⟩),
  (2, ⟨(some 5), .mv (.tmp 16), none⟩)]
abbrev f14r5 : Pc := .reg f14o5 [0, 1, 5] []
def f14l0 : Pc := (.seq (.seq f14r4 (.cond (.tmp 14) .skip (.exit 0))) (.seq (.block 1 (.seq f14r6 (.cond (.tmp 26) (.seq f14r7 .ret) .skip))) f14r5))
theorem f14l0e (C : Cfg) (s : St) : evL C f14l0 s = evL C (.seq (.seq f14r4 (.cond (.tmp 14) .skip (.exit 0))) (.seq (.block 1 (.seq f14r6 (.cond (.tmp 26) (.seq f14r7 .ret) .skip))) f14r5)) s := rfl
abbrev f14o8 : List (Nat × Pop) := [
  (0, ⟨(some 4), .mv (.c (.t (.b true))), none⟩)]
abbrev f14r8 : Pc := .reg f14o8 [4] []
abbrev f14b : Pc := (.seq f14r0 (.seq (.seq f14r1 (.cond (.tmp 10) (.seq f14r2 .ret) .skip)) (.seq (.seq f14r3 (.block 0 (.loop f14l0))) (.seq f14r8 .ret))))
abbrev f14 : Pfn := ⟨2, 27, [.tmp 4], f14b⟩
def f14K : Array (List Nat) := #[[0, 1], [0, 1, 10], [4], [0, 1, 5], [0, 1, 5, 14], [0, 1, 5], [0, 1, 5, 26], [4], [4]]
def f14H : Array (List Nat) := #[[], [], [], [], [], [], [], [], []]
def f14A : Ann := ⟨fun r => f14K.getD r [], fun r => f14H.getD r [], fun r i => ([] : List (Nat × Nat)).contains (r, i)⟩
theorem f14C : compF Go.Proofs.Tryz.prog f14A 14 = some f14 := by kernel_rfl

/-- switchboard/switchboardref03.Right -/
abbrev f15o0 : List (Nat × Pop) := [
  (0, ⟨(some 6), .mv (.c (.t (.b false))), none⟩)]
abbrev f15r0 : Pc := .reg f15o0 [0, 1, 2] []
abbrev f15o1 : List (Nat × Pop) := [
  (0, ⟨(some 9), .mv (.tmp 0), none⟩),
  (1, ⟨(some 10), .lenL (.tmp 9), none⟩),
  (2, ⟨(some 11), .mv (.tmp 1), none⟩),
  (3, ⟨(some 12), .bin .neq (.tmp 10) (.tmp 11), none⟩)]
abbrev f15r1 : Pc := .reg f15o1 [0, 2, 12] []
abbrev f15o2 : List (Nat × Pop) := [
  (0, ⟨(some 6), .mv (.c (.t (.b false))), none⟩)]
abbrev f15r2 : Pc := .reg f15o2 [6] []
abbrev f15o3 : List (Nat × Pop) := [
  (0, ⟨(some 7), .mv (.c (.t (.i .i64 0))), none⟩)]
abbrev f15r3 : Pc := .reg f15o3 [0, 2, 7] []
abbrev f15o4 : List (Nat × Pop) := [
  (0, ⟨(some 13), .mv (.tmp 7), none⟩),
  (1, ⟨(some 14), .mv (.tmp 0), none⟩),
  (2, ⟨(some 15), .lenL (.tmp 14), none⟩),
  (3, ⟨(some 16), .bin .lss (.tmp 13) (.tmp 15), none⟩)]
abbrev f15r4 : Pc := .reg f15o4 [0, 2, 7, 16] []
abbrev f15o6 : List (Nat × Pop) := [
  (0, ⟨(some 19), .mv (.tmp 0), none⟩),
  (1, ⟨(some 20), .mv (.tmp 7), none⟩),
  (2, ⟨(some 21), .ixS 1 (.tmp 19) (.tmp 20), none⟩),
  (3, ⟨(some 22), .load false 1 (.tmp 21), none⟩),
  (4, ⟨(some 23), .lenL (.tmp 22), none⟩),
  (5, ⟨(some 24), .mv (.tmp 2), none⟩),
  (6, ⟨(some 25), .bin .neq (.tmp 23) (.tmp 24), none⟩)]
abbrev f15r6 : Pc := .reg f15o6 [0, 2, 7, 25] []
abbrev f15o7 : List (Nat × Pop) := [
  (0, ⟨(some 6), .mv (.c (.t (.b false))), none⟩)]
abbrev f15r7 : Pc := .reg f15o7 [6] []
abbrev f15o8 : List (Nat × Pop) := [
  (0, ⟨(some 8), .mv (.c (.t (.i .i64 0))), none⟩)]
abbrev f15r8 : Pc := .reg f15o8 [0, 2, 7, 8] []
abbrev f15o9 : List (Nat × Pop) := [
  (0, ⟨(some 26), .mv (.tmp 8), none⟩),
  (1, ⟨(some 27), .mv (.tmp 0), none⟩),
  (2, ⟨(some 28), .mv (.tmp 7), none⟩),
  (3, ⟨(some 29), .ixS 1 (.tmp 27) (.tmp 28), none⟩),
  (4, ⟨(some 30), .load false 1 (.tmp 29), none⟩),
  (5, ⟨(some 31), .lenL (.tmp 30), none⟩),
  (6, ⟨(some 32), .bin .lss (.tmp 26) (.tmp 31), none⟩)]
abbrev f15r9 : Pc := .reg f15o9 [0, 2, 7, 8, 32] []
abbrev f15o11 : List (Nat × Pop) := [
  (0, ⟨(some 35), .mv (.tmp 0), none⟩),
  (1, ⟨(some 36), .mv (.tmp 7), none⟩),
  (2, ⟨(some 37), .ixS 1 (.tmp 35) (.tmp 36), none⟩),
  (3, ⟨(some 38), .load false 1 (.tmp 37), none⟩),
  (4, ⟨(some 39), .mv (.tmp 8), none⟩),
  (5, ⟨(some 40), .ixS 1 (.tmp 38) (.tmp 39), none⟩),
  (6, ⟨(some 41), .load false 1 (.tmp 40), none⟩),
  (7, ⟨(some 42), .bin .gtr (.tmp 41) (.c (.t (.i .i64 2147483647))), none⟩),
  (8, ⟨(some 43), .mv (.tmp 42), none⟩),
  (9, ⟨(some 44), .mv (.tmp 0), (some (43, false))⟩),
  (10, ⟨(some 45), .mv (.tmp 7), (some (43, false))⟩),
  (11, ⟨(some 46), .ixS 1 (.tmp 44) (.tmp 45), (some (43, false))⟩),
  (12, ⟨(some 47), .load false 1 (.tmp 46), (some (43, false))⟩),
  (13, ⟨(some 48), .mv (.tmp 8), (some (43, false))⟩),
  (14, ⟨(some 49), .ixS 1 (.tmp 47) (.tmp 48), (some (43, false))⟩),
  (15, ⟨(some 50), .load false 1 (.tmp 49), (some (43, false))⟩),
  (16, ⟨(some 51), .bin .lss (.tmp 50) (.c (.t (.i .i64 (-2147483647)))), (some (43, false))⟩),
  (17, ⟨(some 52), .pick (.tmp 43) (.c (.t (.b true))) (.tmp 51), none⟩)]
abbrev f15r11 : Pc := .reg f15o11 [0, 2, 7, 8, 52] []
abbrev f15o12 : List (Nat × Pop) := [
  (0, ⟨(some 6), .mv (.c (.t (.b false))), none⟩)]
abbrev f15r12 : Pc := .reg f15o12 [6] []
abbrev f15o10 : List (Nat × Pop) := [
  (0, ⟨(some 33), .mv (.tmp 8), none⟩),
  (1, ⟨(some 34), .bin .add (.tmp 33) (.c (.t (.i .i64 1))), none⟩),
  (2, ⟨(some 8), .mv (.tmp 34), none⟩)]
abbrev f15r10 : Pc := .reg f15o10 [0, 2, 7, 8] []
def f15l0 : Pc := (.seq (.seq f15r9 (.cond (.tmp 32) .skip (.exit 2))) (.seq (.block 3 (.seq f15r11 (.cond (.tmp 52) (.seq f15r12 .ret) .skip))) f15r10))
theorem f15l0e (C : Cfg) (s : St) : evL C f15l0 s = evL C (.seq (.seq f15r9 (.cond (.tmp 32) .skip (.exit 2))) (.seq (.block 3 (.seq f15r11 (.cond (.tmp 52) (.seq f15r12 .ret) .skip))) f15r10)) s := rfl
abbrev f15o5 : List (Nat × Pop) := [
  (0, ⟨(some 17), .mv (.tmp 7), none⟩),
  (1, ⟨(some 18), .bin .add (.tmp 17) (.c (.t (.i .i64 1))), none⟩),
  (2, ⟨(some 7), .mv (.tmp 18), none⟩)]
abbrev f15r5 : Pc := .reg f15o5 [0, 2, 7] []
def f15l1 : Pc := (.seq (.seq f15r4 (.cond (.tmp 16) .skip (.exit 0))) (.seq (.block 1 (.seq (.seq f15r6 (.cond (.tmp 25) (.seq f15r7 .ret) .skip)) (.seq f15r8 (.block 2 (.loop f15l0))))) f15r5))
theorem f15l1e (C : Cfg) (s : St) : evL C f15l1 s = evL C (.seq (.seq f15r4 (.cond (.tmp 16) .skip (.exit 0))) (.seq (.block 1 (.seq (.seq f15r6 (.cond (.tmp 25) (.seq f15r7 .ret) .skip)) (.seq f15r8 (.block 2 (.loop f15l0))))) f15r5)) s := rfl
abbrev f15o13 : List (Nat × Pop) := [
  (0, ⟨(some 6), .mv (.c (.t (.b true))), none⟩)]
abbrev f15r13 : Pc := .reg f15o13 [6] []
abbrev f15b : Pc := (.seq f15r0 (.seq (.seq f15r1 (.cond (.tmp 12) (.seq f15r2 .ret) .skip)) (.seq (.seq f15r3 (.block 0 (.loop f15l1))) (.seq f15r13 .ret))))
abbrev f15 : Pfn := ⟨3, 53, [.tmp 6], f15b⟩
def f15K : Array (List Nat) := #[[0, 1, 2], [0, 2, 12], [6], [0, 2, 7], [0, 2, 7, 16], [0, 2, 7], [0, 2, 7, 25], [6], [0, 2, 7, 8], [0, 2, 7, 8, 32], [0, 2, 7, 8], [0, 2, 7, 8, 52], [6], [6]]
def f15H : Array (List Nat) := #[[], [], [], [], [], [], [], [], [], [], [], [], [], []]
def f15A : Ann := ⟨fun r => f15K.getD r [], fun r => f15H.getD r [], fun r i => ([] : List (Nat × Nat)).contains (r, i)⟩
theorem f15C : compF Go.Proofs.Tryz.prog f15A 15 = some f15 := by kernel_rfl

/-- switchboard/model.Forward -/
abbrev f16o0 : List (Nat × Pop) := [
  (0, ⟨(some 2), .box 60 2 (.tmp 0), none⟩),
  (1, ⟨(some 4), .nilv 38 1, none⟩),
  (2, ⟨(some 5), .mv (.c (.t (.i .i64 0))), none⟩)]
abbrev f16r0 : Pc := .reg f16o0 [1, 2] [4]
abbrev f16o1 : List (Nat × Pop) := [
  (0, ⟨(some 14), .load true 2 (.tmp 2), none⟩),
  (1, ⟨(some 15), .call 31 [(.tmp 14)], none⟩),
  (2, ⟨(some 16), .un .not (.tmp 15), none⟩),
  (3, ⟨(some 17), .mv (.tmp 16), none⟩),
  (4, ⟨(some 18), .load true 2 (.tmp 2), (some (17, false))⟩),
  (5, ⟨(some 19), .mv (.tmp 1), (some (17, false))⟩),
  (6, ⟨(some 20), .call 32 [(.tmp 18), (.tmp 19)], (some (17, false))⟩),
  (7, ⟨(some 21), .un .not (.tmp 20), (some (17, false))⟩),
  (8, ⟨(some 22), .pick (.tmp 17) (.c (.t (.b true))) (.tmp 21), none⟩)]
abbrev f16r1 : Pc := .reg f16o1 [1, 2, 22] []
abbrev f16o2 : List (Nat × Pop) := [
  (0, ⟨(some 4), .nilv 38 1, none⟩),
  (1, ⟨(some 5), .mv (.c (.t (.i .i64 1))), none⟩)]
abbrev f16r2 : Pc := .reg f16o2 [4, 5] [2]
abbrev f16o3 : List (Nat × Pop) := [
  (0, ⟨(some 23), .fad 1 (.tmp 2), none⟩),
  (1, ⟨(some 24), .load false 1 (.tmp 23), none⟩),
  (2, ⟨(some 25), .lenL (.tmp 24), none⟩),
  (3, ⟨(some 26), .mv (.c (.t (.i .i64 0))), none⟩)]
abbrev f16r3 : Pc := .reg f16o3 [1, 24, 25, 26] [2]
abbrev f16o4 : List (Nat × Pop) := [
  (0, ⟨(some 27), .bin .lss (.tmp 26) (.tmp 25), none⟩)]
abbrev f16r4 : Pc := .reg f16o4 [1, 24, 25, 26, 27] []
abbrev f16o5 : List (Nat × Pop) := [
  (0, ⟨(some 28), .ixS 3 (.tmp 24) (.tmp 26), none⟩),
  (1, ⟨(some 29), .load true 3 (.tmp 28), none⟩),
  (2, ⟨(some 7), .alloc 57 [.nl, .nl, (.t (.i .i64 0))], none⟩),
  (3, ⟨none, .store 3 (.tmp 7) (.tmp 29), none⟩)]
abbrev f16r5 : Pc := .reg f16o5 [1, 7, 24, 25, 26] []
abbrev f16o6 : List (Nat × Pop) := [
  (0, ⟨(some 30), .load true 3 (.tmp 7), none⟩),
  (1, ⟨(some 31), .mv (.tmp 1), none⟩),
  (2, ⟨(some 32), .call 33 [(.tmp 30), (.tmp 31)], none⟩),
  (3, ⟨(some 8), .mv (.tmp 32), none⟩)]
abbrev f16r6 : Pc := .reg f16o6 [1, 7, 8, 24, 25, 26] []
abbrev f16o7 : List (Nat × Pop) := [
  (0, ⟨(some 9), .nilv 38 1, none⟩)]
abbrev f16r7 : Pc := .reg f16o7 [1, 7, 8, 9, 24, 25, 26] []
abbrev f16o8 : List (Nat × Pop) := [
  (0, ⟨(some 33), .mv (.tmp 8), none⟩),
  (1, ⟨(some 34), .lenL (.tmp 33), none⟩),
  (2, ⟨(some 35), .mv (.c (.t (.i .i64 0))), none⟩)]
abbrev f16r8 : Pc := .reg f16o8 [1, 7, 8, 9, 24, 25, 26, 33, 34, 35] []
abbrev f16o9 : List (Nat × Pop) := [
  (0, ⟨(some 36), .bin .lss (.tmp 35) (.tmp 34), none⟩)]
abbrev f16r9 : Pc := .reg f16o9 [1, 7, 8, 9, 24, 25, 26, 33, 34, 35, 36] []
abbrev f16o10 : List (Nat × Pop) := [
  (0, ⟨(some 37), .ixS 4 (.tmp 33) (.tmp 35), none⟩),
  (1, ⟨(some 38), .load true 4 (.tmp 37), none⟩),
  (2, ⟨(some 11), .alloc 93 [(.t (.i .i64 0)), (.t (.i .i64 0)), (.t (.i .i64 0)), (.t (.i .i64 0))], none⟩),
  (3, ⟨none, .store 4 (.tmp 11) (.tmp 38), none⟩)]
abbrev f16r10 : Pc := .reg f16o10 [1, 7, 8, 9, 11, 24, 25, 26, 33, 34, 35] []
abbrev f16o11 : List (Nat × Pop) := [
  (0, ⟨(some 40), .fad 1 (.tmp 7), none⟩),
  (1, ⟨(some 41), .load false 1 (.tmp 40), none⟩),
  (2, ⟨(some 42), .fad 2 (.tmp 11), none⟩),
  (3, ⟨(some 43), .load false 1 (.tmp 42), none⟩),
  (4, ⟨(some 44), .ixS 2 (.tmp 41) (.tmp 43), none⟩),
  (5, ⟨(some 45), .load true 2 (.tmp 44), none⟩),
  (6, ⟨(some 46), .mv (.tmp 1), none⟩),
  (7, ⟨(some 47), .fad 0 (.tmp 11), none⟩),
  (8, ⟨(some 48), .load false 1 (.tmp 47), none⟩),
  (9, ⟨(some 49), .ixS 1 (.tmp 46) (.tmp 48), none⟩),
  (10, ⟨(some 50), .load false 1 (.tmp 49), none⟩),
  (11, ⟨(some 51), .callq 34 [(.tmp 45), (.tmp 50)], none⟩),
  (12, ⟨(some 39), .mv (.tmp 51), none⟩),
  (13, ⟨(some 52), .ext 0 (.tmp 39), none⟩),
  (14, ⟨(some 53), .ext 1 (.tmp 39), none⟩),
  (15, ⟨(some 12), .mv (.tmp 52), none⟩),
  (16, ⟨(some 13), .mv (.tmp 53), none⟩)]
abbrev f16r11 : Pc := .reg f16o11 [1, 7, 8, 9, 12, 24, 25, 26, 33, 34, 35] [11]
abbrev f16o12 : List (Nat × Pop) := [
  (0, ⟨(some 54), .mv (.tmp 9), none⟩),
  (1, ⟨(some 55), .mv (.tmp 12), none⟩),
  (2, ⟨(some 56), .bslT 1 [(.tmp 55)], none⟩),
  (3, ⟨(some 57), .app 38 1 24 (.tmp 54) (.tmp 56), none⟩),
  (4, ⟨(some 9), .mv (.tmp 57), none⟩)]
abbrev f16r12 : Pc := .reg f16o12 [1, 7, 8, 9, 24, 25, 26, 33, 34, 35] []
abbrev f16o13 : List (Nat × Pop) := [
  (0, ⟨(some 58), .bin .add (.tmp 35) (.c (.t (.i .i64 1))), none⟩),
  (1, ⟨(some 35), .mv (.tmp 58), none⟩)]
abbrev f16r13 : Pc := .reg f16o13 [1, 7, 8, 9, 24, 25, 26, 33, 34, 35] []
def f16l0 : Pc := (.seq f16r9 (.seq (.cond (.tmp 36) .skip (.exit 2)) (.seq (.block 3 (.seq f16r10 (.seq f16r11 f16r12))) f16r13)))
theorem f16l0e (C : Cfg) (s : St) : evL C f16l0 s = evL C (.seq f16r9 (.seq (.cond (.tmp 36) .skip (.exit 2)) (.seq (.block 3 (.seq f16r10 (.seq f16r11 f16r12))) f16r13))) s := rfl
abbrev f16o14 : List (Nat × Pop) := [
  (0, ⟨(some 59), .mv (.tmp 1), none⟩),
  (1, ⟨(some 60), .mv (.tmp 8), none⟩),
  (2, ⟨(some 61), .mv (.tmp 9), none⟩),
  (3, ⟨(some 62), .call 35 [(.tmp 59), (.tmp 60), (.tmp 61)], none⟩),
  (4, ⟨(some 1), .mv (.tmp 62), none⟩)]
abbrev f16r14 : Pc := .reg f16o14 [1, 24, 25, 26] [7]
abbrev f16o15 : List (Nat × Pop) := [
  (0, ⟨(some 63), .bin .add (.tmp 26) (.c (.t (.i .i64 1))), none⟩),
  (1, ⟨(some 26), .mv (.tmp 63), none⟩)]
abbrev f16r15 : Pc := .reg f16o15 [1, 24, 25, 26] []
def f16l1 : Pc := (.seq f16r4 (.seq (.cond (.tmp 27) .skip (.exit 0)) (.seq (.block 1 (.seq f16r5 (.seq f16r6 (.seq f16r7 (.seq (.seq f16r8 (.block 2 (.loop f16l0))) f16r14))))) f16r15)))
theorem f16l1e (C : Cfg) (s : St) : evL C f16l1 s = evL C (.seq f16r4 (.seq (.cond (.tmp 27) .skip (.exit 0)) (.seq (.block 1 (.seq f16r5 (.seq f16r6 (.seq f16r7 (.seq (.seq f16r8 (.block 2 (.loop f16l0))) f16r14))))) f16r15))) s := rfl
abbrev f16o16 : List (Nat × Pop) := [
  (0, ⟨(some 64), .mv (.tmp 1), none⟩),
  (1, ⟨(some 4), .mv (.tmp 64), none⟩),
  (2, ⟨(some 5), .mv (.c (.t (.i .i64 0))), none⟩)]
abbrev f16r16 : Pc := .reg f16o16 [4, 5] []
abbrev f16b : Pc := (.seq f16r0 (.seq (.seq f16r1 (.cond (.tmp 22) (.seq f16r2 .ret) .skip)) (.seq (.seq f16r3 (.block 0 (.loop f16l1))) (.seq f16r16 .ret))))
abbrev f16 : Pfn := ⟨2, 65, [.tmp 4, .tmp 5], f16b⟩
def f16K : Array (List Nat) := #[[1, 2], [1, 2, 22], [4, 5], [1, 24, 25, 26], [1, 24, 25, 26, 27], [1, 7, 24, 25, 26], [1, 7, 8, 24, 25, 26], [1, 7, 8, 9, 24, 25, 26], [1, 7, 8, 9, 24, 25, 26, 33, 34, 35], [1, 7, 8, 9, 24, 25, 26, 33, 34, 35, 36], [1, 7, 8, 9, 11, 24, 25, 26, 33, 34, 35], [1, 7, 8, 9, 12, 24, 25, 26, 33, 34, 35], [1, 7, 8, 9, 24, 25, 26, 33, 34, 35], [1, 7, 8, 9, 24, 25, 26, 33, 34, 35], [1, 24, 25, 26], [1, 24, 25, 26], [4, 5]]
def f16H : Array (List Nat) := #[[4], [], [2], [2], [], [], [], [], [], [], [], [11], [], [], [7], [], []]
def f16A : Ann := ⟨fun r => f16K.getD r [], fun r => f16H.getD r [], fun r i => ([] : List (Nat × Nat)).contains (r, i)⟩
theorem f16C : compF Go.Proofs.Tryz.prog f16A 16 = some f16 := by kernel_rfl

/-- switchboard/expert.Right -/
abbrev f17o0 : List (Nat × Pop) := [
  (0, ⟨(some 2), .box 24 2 (.tmp 0), none⟩),
  (1, ⟨(some 4), .mv (.c (.t (.b false))), none⟩)]
abbrev f17r0 : Pc := .reg f17o0 [1, 2] []
abbrev f17o1 : List (Nat × Pop) := [
  (0, ⟨(some 6), .fad 0 (.tmp 2), none⟩),
  (1, ⟨(some 7), .load false 1 (.tmp 6), none⟩),
  (2, ⟨(some 8), .lenL (.tmp 7), none⟩),
  (3, ⟨(some 5), .mv (.tmp 8), none⟩)]
abbrev f17r1 : Pc := .reg f17o1 [1, 2, 5] []
abbrev f17o2 : List (Nat × Pop) := [
  (0, ⟨(some 9), .mv (.tmp 1), none⟩),
  (1, ⟨(some 10), .bin .geq (.tmp 9) (.c (.t (.i .i64 1))), none⟩),
  (2, ⟨(some 11), .mv (.tmp 10), none⟩),
  (3, ⟨(some 12), .mv (.tmp 1), (some (11, true))⟩),
  (4, ⟨(some 13), .bin .leq (.tmp 12) (.c (.t (.i .i64 8))), (some (11, true))⟩),
  (5, ⟨(some 14), .pick (.tmp 11) (.tmp 13) (.c (.t (.b false))), none⟩),
  (6, ⟨(some 15), .mv (.tmp 14), none⟩),
  (7, ⟨(some 16), .mv (.tmp 5), (some (15, true))⟩),
  (8, ⟨(some 17), .bin .geq (.tmp 16) (.c (.t (.i .i64 1))), (some (15, true))⟩),
  (9, ⟨(some 18), .pick (.tmp 15) (.tmp 17) (.c (.t (.b false))), none⟩),
  (10, ⟨(some 19), .mv (.tmp 18), none⟩),
  (11, ⟨(some 20), .mv (.tmp 5), (some (19, true))⟩),
  (12, ⟨(some 21), .bin .leq (.tmp 20) (.c (.t (.i .i64 8))), (some (19, true))⟩),
  (13, ⟨(some 22), .pick (.tmp 19) (.tmp 21) (.c (.t (.b false))), none⟩),
  (14, ⟨(some 23), .mv (.tmp 22), none⟩),
  (15, ⟨(some 24), .fad 0 (.tmp 2), (some (23, true))⟩),
  (16, ⟨(some 25), .load false 1 (.tmp 24), (some (23, true))⟩),
  (17, ⟨(some 26), .mv (.tmp 5), (some (23, true))⟩),
  (18, ⟨(some 27), .mv (.tmp 1), (some (23, true))⟩),
  (19, ⟨(some 28), .call 36 [(.tmp 25), (.tmp 26), (.tmp 27)], (some (23, true))⟩),
  (20, ⟨(some 29), .pick (.tmp 23) (.tmp 28) (.c (.t (.b false))), none⟩),
  (21, ⟨(some 30), .mv (.tmp 29), none⟩),
  (22, ⟨(some 31), .fad 1 (.tmp 2), (some (30, true))⟩),
  (23, ⟨(some 32), .load false 1 (.tmp 31), (some (30, true))⟩),
  (24, ⟨(some 33), .mv (.tmp 1), (some (30, true))⟩),
  (25, ⟨(some 34), .mv (.tmp 5), (some (30, true))⟩),
  (26, ⟨(some 35), .call 36 [(.tmp 32), (.tmp 33), (.tmp 34)], (some (30, true))⟩),
  (27, ⟨(some 36), .pick (.tmp 30) (.tmp 35) (.c (.t (.b false))), none⟩),
  (28, ⟨(some 4), .mv (.tmp 36), none⟩)]
abbrev f17r2 : Pc := .reg f17o2 [4] [2]
abbrev f17b : Pc := (.seq f17r0 (.seq f17r1 (.seq f17r2 .ret)))
abbrev f17 : Pfn := ⟨2, 37, [.tmp 4], f17b⟩
def f17K : Array (List Nat) := #[[1, 2], [1, 2, 5], [4]]
def f17H : Array (List Nat) := #[[], [], [2]]
def f17A : Ann := ⟨fun r => f17K.getD r [], fun r => f17H.getD r [], fun r i => ([] : List (Nat × Nat)).contains (r, i)⟩
theorem f17C : compF Go.Proofs.Tryz.prog f17A 17 = some f17 := by kernel_rfl

/-- (*strings.Builder).WriteString -/
abbrev f18o0 : List (Nat × Pop) := [
  (0, ⟨(some 4), .mv (.c (.t (.i .i64 0))), none⟩),
  (1, ⟨(some 5), .mv (.c (.t .ni)), none⟩)]
abbrev f18r0 : Pc := .reg f18o0 [0, 1] []
abbrev f18o1 : List (Nat × Pop) := [
  (0, ⟨(some 6), .mv (.tmp 0), none⟩),
  (1, ⟨(some 7), .call 37 [(.tmp 6)], none⟩)]
abbrev f18r1 : Pc := .reg f18o1 [0, 1] []
abbrev f18o2 : List (Nat × Pop) := [
  (0, ⟨(some 8), .mv (.tmp 0), none⟩),
  (1, ⟨(some 9), .mv (.tmp 0), none⟩),
  (2, ⟨(some 10), .nchk (.tmp 9), none⟩),
  (3, ⟨(some 11), .fad 1 (.tmp 10), none⟩),
  (4, ⟨(some 12), .load false 1 (.tmp 11), none⟩),
  (5, ⟨(some 13), .mv (.tmp 1), none⟩),
  (6, ⟨(some 14), .appS 5 (.tmp 12) (.tmp 13), none⟩),
  (7, ⟨(some 15), .nchk (.tmp 8), none⟩),
  (8, ⟨(some 16), .fad 1 (.tmp 15), none⟩),
  (9, ⟨none, .store 1 (.tmp 16) (.tmp 14), none⟩)]
abbrev f18r2 : Pc := .reg f18o2 [1] []
abbrev f18o3 : List (Nat × Pop) := [
  (0, ⟨(some 17), .mv (.tmp 1), none⟩),
  (1, ⟨(some 18), .lenS (.tmp 17), none⟩),
  (2, ⟨(some 4), .mv (.tmp 18), none⟩),
  (3, ⟨(some 5), .mv (.c (.t .ni)), none⟩)]
abbrev f18r3 : Pc := .reg f18o3 [4, 5] []
abbrev f18b : Pc := (.seq f18r0 (.seq f18r1 (.seq f18r2 (.seq f18r3 .ret))))
abbrev f18 : Pfn := ⟨2, 19, [.tmp 4, .tmp 5], f18b⟩
def f18K : Array (List Nat) := #[[0, 1], [0, 1], [1], [4, 5]]
def f18H : Array (List Nat) := #[[], [], [], []]
def f18A : Ann := ⟨fun r => f18K.getD r [], fun r => f18H.getD r [], fun r i => ([] : List (Nat × Nat)).contains (r, i)⟩
theorem f18C : compF Go.Proofs.Tryz.prog f18A 18 = some f18 := by kernel_rfl

/-- switchboard/chunk.four -/
abbrev f19o0 : List (Nat × Pop) := [
  (0, ⟨(some 2), .mv (.c (.t (.s []))), none⟩)]
abbrev f19r0 : Pc := .reg f19o0 [0] []
abbrev f19o1 : List (Nat × Pop) := [
  (0, ⟨(some 3), .mv (.tmp 0), none⟩),
  (1, ⟨(some 4), .cvi .u8 (.tmp 3), none⟩),
  (2, ⟨(some 5), .mv (.tmp 0), none⟩),
  (3, ⟨(some 6), .bin .shr (.tmp 5) (.c (.t (.i .u64 8))), none⟩),
  (4, ⟨(some 7), .cvi .u8 (.tmp 6), none⟩),
  (5, ⟨(some 8), .mv (.tmp 0), none⟩),
  (6, ⟨(some 9), .bin .shr (.tmp 8) (.c (.t (.i .u64 16))), none⟩),
  (7, ⟨(some 10), .cvi .u8 (.tmp 9), none⟩),
  (8, ⟨(some 11), .mv (.tmp 0), none⟩),
  (9, ⟨(some 12), .bin .shr (.tmp 11) (.c (.t (.i .u64 24))), none⟩),
  (10, ⟨(some 13), .cvi .u8 (.tmp 12), none⟩),
  (11, ⟨(some 14), .bslT 1 [(.tmp 4), (.tmp 7), (.tmp 10), (.tmp 13)], none⟩),
  (12, ⟨(some 15), .cvbs (.tmp 14), none⟩),
  (13, ⟨(some 2), .mv (.tmp 15), none⟩)]
abbrev f19r1 : Pc := .reg f19o1 [2] []
abbrev f19b : Pc := (.seq f19r0 (.seq f19r1 .ret))
abbrev f19 : Pfn := ⟨1, 16, [.tmp 2], f19b⟩
def f19K : Array (List Nat) := #[[0], [2]]
def f19H : Array (List Nat) := #[[], []]
def f19A : Ann := ⟨fun r => f19K.getD r [], fun r => f19H.getD r [], fun r i => ([] : List (Nat × Nat)).contains (r, i)⟩
theorem f19C : compF Go.Proofs.Tryz.prog f19A 19 = some f19 := by kernel_rfl

/-- switchboard/crc.Sum -/
abbrev f21o0 : List (Nat × Pop) := [
  (0, ⟨(some 2), .mv (.c (.t (.i .i64 0))), none⟩)]
abbrev f21r0 : Pc := .reg f21o0 [0] []
abbrev f21o1 : List (Nat × Pop) := [
  (0, ⟨(some 3), .mv (.c (.t (.i .u32 4294967295))), none⟩)]
abbrev f21r1 : Pc := .reg f21o1 [0, 3] []
abbrev f21o2 : List (Nat × Pop) := [
  (0, ⟨(some 7), .mv (.tmp 0), none⟩),
  (1, ⟨(some 8), .sbs 5 (.tmp 7), none⟩),
  (2, ⟨(some 9), .lenL (.tmp 8), none⟩),
  (3, ⟨(some 10), .mv (.c (.t (.i .i64 0))), none⟩)]
abbrev f21r2 : Pc := .reg f21o2 [3, 8, 9, 10] []
abbrev f21o3 : List (Nat × Pop) := [
  (0, ⟨(some 11), .bin .lss (.tmp 10) (.tmp 9), none⟩)]
abbrev f21r3 : Pc := .reg f21o3 [3, 8, 9, 10, 11] []
abbrev f21o4 : List (Nat × Pop) := [
  (0, ⟨(some 12), .ixS 1 (.tmp 8) (.tmp 10), none⟩),
  (1, ⟨(some 13), .load false 1 (.tmp 12), none⟩),
  (2, ⟨(some 5), .mv (.tmp 13), none⟩)]
abbrev f21r4 : Pc := .reg f21o4 [3, 5, 8, 9, 10] []
abbrev f21o5 : List (Nat × Pop) := [
  (0, ⟨(some 14), .mv (.tmp 3), none⟩),
  (1, ⟨(some 15), .mv (.tmp 5), none⟩),
  (2, ⟨(some 16), .cvi .u32 (.tmp 15), none⟩),
  (3, ⟨(some 17), .bin .xor (.tmp 14) (.tmp 16), none⟩),
  (4, ⟨(some 3), .mv (.tmp 17), none⟩)]
abbrev f21r5 : Pc := .reg f21o5 [3, 8, 9, 10] []
abbrev f21o6 : List (Nat × Pop) := [
  (0, ⟨(some 18), .mv (.c (.t (.i .i64 0))), none⟩)]
abbrev f21r6 : Pc := .reg f21o6 [3, 8, 9, 10, 18] []
abbrev f21o7 : List (Nat × Pop) := [
  (0, ⟨(some 19), .bin .lss (.tmp 18) (.c (.t (.i .i64 8))), none⟩)]
abbrev f21r7 : Pc := .reg f21o7 [3, 8, 9, 10, 18, 19] []
abbrev f21o8 : List (Nat × Pop) := [
  (0, ⟨(some 20), .mv (.tmp 3), none⟩),
  (1, ⟨(some 21), .bin .and (.tmp 20) (.c (.t (.i .u32 1))), none⟩),
  (2, ⟨(some 6), .mv (.tmp 21), none⟩)]
abbrev f21r8 : Pc := .reg f21o8 [3, 6, 8, 9, 10, 18] []
abbrev f21o9 : List (Nat × Pop) := [
  (0, ⟨(some 22), .mv (.tmp 3), none⟩),
  (1, ⟨(some 23), .bin .shr (.tmp 22) (.c (.t (.i .u64 1))), none⟩),
  (2, ⟨(some 3), .mv (.tmp 23), none⟩)]
abbrev f21r9 : Pc := .reg f21o9 [3, 6, 8, 9, 10, 18] []
abbrev f21o10 : List (Nat × Pop) := [
  (0, ⟨(some 24), .mv (.tmp 3), none⟩),
  (1, ⟨(some 25), .mv (.tmp 6), none⟩),
  (2, ⟨(some 26), .bin .mul (.c (.t (.i .u32 3988292384))) (.tmp 25), none⟩),
  (3, ⟨(some 27), .bin .xor (.tmp 24) (.tmp 26), none⟩),
  (4, ⟨(some 3), .mv (.tmp 27), none⟩)]
abbrev f21r10 : Pc := .reg f21o10 [3, 8, 9, 10, 18] []
abbrev f21o11 : List (Nat × Pop) := [
  (0, ⟨(some 28), .bin .add (.tmp 18) (.c (.t (.i .i64 1))), none⟩),
  (1, ⟨(some 18), .mv (.tmp 28), none⟩)]
abbrev f21r11 : Pc := .reg f21o11 [3, 8, 9, 10, 18] []
def f21l0 : Pc := (.seq f21r7 (.seq (.cond (.tmp 19) .skip (.exit 2)) (.seq (.block 3 (.seq f21r8 (.seq f21r9 f21r10))) f21r11)))
theorem f21l0e (C : Cfg) (s : St) : evL C f21l0 s = evL C (.seq f21r7 (.seq (.cond (.tmp 19) .skip (.exit 2)) (.seq (.block 3 (.seq f21r8 (.seq f21r9 f21r10))) f21r11))) s := rfl
abbrev f21o12 : List (Nat × Pop) := [
  (0, ⟨(some 29), .bin .add (.tmp 10) (.c (.t (.i .i64 1))), none⟩),
  (1, ⟨(some 10), .mv (.tmp 29), none⟩)]
abbrev f21r12 : Pc := .reg f21o12 [3, 8, 9, 10] []
def f21l1 : Pc := (.seq f21r3 (.seq (.cond (.tmp 11) .skip (.exit 0)) (.seq (.block 1 (.seq f21r4 (.seq f21r5 (.seq f21r6 (.block 2 (.loop f21l0)))))) f21r12)))
theorem f21l1e (C : Cfg) (s : St) : evL C f21l1 s = evL C (.seq f21r3 (.seq (.cond (.tmp 11) .skip (.exit 0)) (.seq (.block 1 (.seq f21r4 (.seq f21r5 (.seq f21r6 (.block 2 (.loop f21l0)))))) f21r12))) s := rfl
abbrev f21o13 : List (Nat × Pop) := [
  (0, ⟨(some 30), .mv (.tmp 3), none⟩),
  (1, ⟨(some 31), .bin .xor (.tmp 30) (.c (.t (.i .u32 4294967295))), none⟩),
  (2, ⟨(some 32), .cvi .i64 (.tmp 31), none⟩),
  (3, ⟨(some 2), .mv (.tmp 32), none⟩)]
abbrev f21r13 : Pc := .reg f21o13 [2] [8]
abbrev f21b : Pc := (.seq f21r0 (.seq f21r1 (.seq (.seq f21r2 (.block 0 (.loop f21l1))) (.seq f21r13 .ret))))
abbrev f21 : Pfn := ⟨1, 33, [.tmp 2], f21b⟩
def f21K : Array (List Nat) := #[[0], [0, 3], [3, 8, 9, 10], [3, 8, 9, 10, 11], [3, 5, 8, 9, 10], [3, 8, 9, 10], [3, 8, 9, 10, 18], [3, 8, 9, 10, 18, 19], [3, 6, 8, 9, 10, 18], [3, 6, 8, 9, 10, 18], [3, 8, 9, 10, 18], [3, 8, 9, 10, 18], [3, 8, 9, 10], [2]]
def f21H : Array (List Nat) := #[[], [], [], [], [], [], [], [], [], [], [], [], [], [8]]
def f21A : Ann := ⟨fun r => f21K.getD r [], fun r => f21H.getD r [], fun r i => ([] : List (Nat × Nat)).contains (r, i)⟩
theorem f21C : compF Go.Proofs.Tryz.prog f21A 21 = some f21 := by kernel_rfl

/-- switchboard/link.Push -/
abbrev f22o0 : List (Nat × Pop) := [
  (0, ⟨(some 2), .box 37 2 (.tmp 0), none⟩),
  (1, ⟨(some 4), .alloc 37 [(.t (.i .i64 0)), .nl], none⟩),
  (2, ⟨(some 5), .mv (.c (.t (.i .i64 0))), none⟩),
  (3, ⟨(some 6), .mv (.c (.t (.i .i64 0))), none⟩)]
abbrev f22r0 : Pc := .reg f22o0 [1, 2, 4] []
abbrev f22o1 : List (Nat × Pop) := [
  (0, ⟨(some 9), .load true 2 (.tmp 2), none⟩),
  (1, ⟨(some 10), .call 38 [(.tmp 9)], none⟩),
  (2, ⟨(some 11), .un .not (.tmp 10), none⟩),
  (3, ⟨(some 12), .mv (.tmp 11), none⟩),
  (4, ⟨(some 13), .fad 0 (.tmp 2), (some (12, false))⟩),
  (5, ⟨(some 14), .load false 1 (.tmp 13), (some (12, false))⟩),
  (6, ⟨(some 15), .bin .eql (.tmp 14) (.c (.t (.i .i64 2147483647))), (some (12, false))⟩),
  (7, ⟨(some 16), .pick (.tmp 12) (.c (.t (.b true))) (.tmp 15), none⟩),
  (8, ⟨(some 8), .mv (.tmp 16), none⟩)]
abbrev f22r1 : Pc := .reg f22o1 [1, 2, 4, 8] []
abbrev f22o2 : List (Nat × Pop) := [
  (0, ⟨(some 17), .load true 2 (.tmp 2), none⟩),
  (1, ⟨none, .store 2 (.tmp 4) (.tmp 17), none⟩),
  (2, ⟨(some 5), .mv (.c (.t (.i .i64 0))), none⟩),
  (3, ⟨(some 6), .mv (.c (.t (.i .i64 1))), none⟩)]
abbrev f22r2 : Pc := .reg f22o2 [4, 5, 6] [2]
abbrev f22o3 : List (Nat × Pop) := [
  (0, ⟨(some 19), .fad 1 (.tmp 2), none⟩),
  (1, ⟨(some 20), .load false 1 (.tmp 19), none⟩),
  (2, ⟨(some 21), .lenL (.tmp 20), none⟩),
  (3, ⟨(some 22), .bin .eql (.tmp 21) (.c (.t (.i .i64 64))), none⟩),
  (4, ⟨(some 18), .mv (.tmp 22), none⟩)]
abbrev f22r3 : Pc := .reg f22o3 [1, 2, 4, 18] []
abbrev f22o4 : List (Nat × Pop) := [
  (0, ⟨(some 23), .load true 2 (.tmp 2), none⟩),
  (1, ⟨none, .store 2 (.tmp 4) (.tmp 23), none⟩),
  (2, ⟨(some 5), .mv (.c (.t (.i .i64 0))), none⟩),
  (3, ⟨(some 6), .mv (.c (.t (.i .i64 8))), none⟩)]
abbrev f22r4 : Pc := .reg f22o4 [4, 5, 6] [2]
abbrev f22o5 : List (Nat × Pop) := [
  (0, ⟨(some 24), .fad 0 (.tmp 2), none⟩),
  (1, ⟨(some 25), .load false 1 (.tmp 24), none⟩),
  (2, ⟨(some 7), .mv (.tmp 25), none⟩)]
abbrev f22r5 : Pc := .reg f22o5 [1, 2, 4, 7] []
abbrev f22o6 : List (Nat × Pop) := [
  (0, ⟨(some 26), .mv (.tmp 7), none⟩),
  (1, ⟨(some 27), .bin .add (.tmp 26) (.c (.t (.i .i64 1))), none⟩),
  (2, ⟨(some 28), .fad 1 (.tmp 2), none⟩),
  (3, ⟨(some 29), .load false 1 (.tmp 28), none⟩),
  (4, ⟨(some 30), .call 39 [(.tmp 29)], none⟩),
  (5, ⟨(some 31), .mv (.tmp 7), none⟩),
  (6, ⟨(some 32), .mv (.tmp 1), none⟩),
  (7, ⟨(some 33), .build [(.t (.i .i64 0)), (.t (.s []))] [(0, 1, (.tmp 31)), (1, 1, (.tmp 32))], none⟩),
  (8, ⟨(some 34), .bslT 2 [(.tmp 33)], none⟩),
  (9, ⟨(some 35), .app 77 2 24 (.tmp 30) (.tmp 34), none⟩),
  (10, ⟨(some 36), .build [(.t (.i .i64 0)), .nl] [(0, 1, (.tmp 27)), (1, 1, (.tmp 35))], none⟩),
  (11, ⟨(some 37), .mv (.tmp 7), none⟩),
  (12, ⟨none, .store 2 (.tmp 4) (.tmp 36), none⟩),
  (13, ⟨(some 5), .mv (.tmp 37), none⟩),
  (14, ⟨(some 6), .mv (.c (.t (.i .i64 0))), none⟩)]
abbrev f22r6 : Pc := .reg f22o6 [4, 5, 6] [2]
abbrev f22b : Pc := (.seq f22r0 (.seq (.block 0 (.seq f22r1 (.cond (.tmp 8) (.seq f22r2 .ret) (.seq f22r3 (.cond (.tmp 18) (.seq f22r4 .ret) .skip))))) (.seq f22r5 (.seq f22r6 .ret))))
abbrev f22 : Pfn := ⟨2, 38, [.cell 4 true 2, .tmp 5, .tmp 6], f22b⟩
def f22K : Array (List Nat) := #[[1, 2, 4], [1, 2, 4, 8], [4, 5, 6], [1, 2, 4, 18], [4, 5, 6], [1, 2, 4, 7], [4, 5, 6]]
def f22H : Array (List Nat) := #[[], [], [2], [], [2], [], [2]]
def f22A : Ann := ⟨fun r => f22K.getD r [], fun r => f22H.getD r [], fun r i => ([] : List (Nat × Nat)).contains (r, i)⟩
theorem f22C : compF Go.Proofs.Tryz.prog f22A 22 = some f22 := by kernel_rfl

/-- switchboard/port.Pack -/
abbrev f23o0 : List (Nat × Pop) := [
  (0, ⟨(some 6), .mv (.c (.t (.s []))), none⟩),
  (1, ⟨(some 7), .mv (.c (.t (.i .i64 0))), none⟩)]
abbrev f23r0 : Pc := .reg f23o0 [0, 1, 2] []
abbrev f23o1 : List (Nat × Pop) := [
  (0, ⟨(some 9), .mv (.tmp 0), none⟩)]
abbrev f23r1 : Pc := .reg f23o1 [0, 1, 2, 9] []
abbrev f23o2 : List (Nat × Pop) := [
  (0, ⟨(some 11), .bin .eql (.tmp 9) (.c (.t (.i .u8 65))), none⟩),
  (1, ⟨(some 10), .mv (.tmp 11), none⟩)]
abbrev f23r2 : Pc := .reg f23o2 [0, 1, 2, 9, 10] []
abbrev f23o3 : List (Nat × Pop) := [
  (0, ⟨(some 13), .bin .eql (.tmp 9) (.c (.t (.i .u8 68))), none⟩),
  (1, ⟨(some 12), .mv (.tmp 13), none⟩)]
abbrev f23r3 : Pc := .reg f23o3 [0, 1, 2, 12] []
abbrev f23o4 : List (Nat × Pop) := [
  (0, ⟨(some 14), .mv (.tmp 2), none⟩),
  (1, ⟨(some 15), .bin .neq (.tmp 14) (.c (.t (.s []))), none⟩)]
abbrev f23r4 : Pc := .reg f23o4 [0, 1, 2, 15] []
abbrev f23o5 : List (Nat × Pop) := [
  (0, ⟨(some 6), .mv (.c (.t (.s []))), none⟩),
  (1, ⟨(some 7), .mv (.c (.t (.i .i64 1))), none⟩)]
abbrev f23r5 : Pc := .reg f23o5 [6, 7] []
abbrev f23o6 : List (Nat × Pop) := [
  (0, ⟨(some 16), .mv (.tmp 1), none⟩),
  (1, ⟨(some 17), .bin .lss (.tmp 16) (.c (.t (.i .i64 0))), none⟩),
  (2, ⟨(some 18), .mv (.tmp 17), none⟩),
  (3, ⟨(some 19), .mv (.tmp 1), (some (18, false))⟩),
  (4, ⟨(some 20), .bin .gtr (.tmp 19) (.c (.t (.i .i64 2147483647))), (some (18, false))⟩),
  (5, ⟨(some 21), .pick (.tmp 18) (.c (.t (.b true))) (.tmp 20), none⟩)]
abbrev f23r6 : Pc := .reg f23o6 [0, 1, 2, 21] []
abbrev f23o7 : List (Nat × Pop) := [
  (0, ⟨(some 6), .mv (.c (.t (.s []))), none⟩),
  (1, ⟨(some 7), .mv (.c (.t (.i .i64 1))), none⟩)]
abbrev f23r7 : Pc := .reg f23o7 [6, 7] []
abbrev f23o8 : List (Nat × Pop) := [
  (0, ⟨(some 22), .mv (.tmp 0), none⟩),
  (1, ⟨(some 23), .bslF 1 [(.tmp 22)], none⟩),
  (2, ⟨(some 24), .cvbs (.tmp 23), none⟩),
  (3, ⟨(some 25), .mv (.tmp 1), none⟩),
  (4, ⟨(some 26), .callq 40 [(.tmp 25)], none⟩),
  (5, ⟨(some 27), .bin .add (.tmp 24) (.tmp 26), none⟩),
  (6, ⟨(some 28), .mv (.tmp 2), none⟩),
  (7, ⟨(some 29), .bin .add (.tmp 27) (.tmp 28), none⟩),
  (8, ⟨(some 8), .mv (.tmp 29), none⟩)]
abbrev f23r8 : Pc := .reg f23o8 [8] []
abbrev f23o9 : List (Nat × Pop) := [
  (0, ⟨(some 30), .mv (.tmp 8), none⟩),
  (1, ⟨(some 31), .mv (.tmp 8), none⟩),
  (2, ⟨(some 32), .call 21 [(.tmp 31)], none⟩),
  (3, ⟨(some 33), .call 40 [(.tmp 32)], none⟩),
  (4, ⟨(some 34), .bin .add (.tmp 30) (.tmp 33), none⟩),
  (5, ⟨(some 6), .mv (.tmp 34), none⟩),
  (6, ⟨(some 7), .mv (.c (.t (.i .i64 0))), none⟩)]
abbrev f23r9 : Pc := .reg f23o9 [6, 7] []
abbrev f23o10 : List (Nat × Pop) := [
  (0, ⟨(some 6), .mv (.c (.t (.s []))), none⟩),
  (1, ⟨(some 7), .mv (.c (.t (.i .i64 1))), none⟩)]
abbrev f23r10 : Pc := .reg f23o10 [6, 7] []
abbrev f23b : Pc := (.seq f23r0 (.seq (.seq f23r1 (.block 0 (.seq (.block 2 (.seq (.block 1 (.seq (.seq (.seq f23r2 (.cond (.tmp 10) (.exit 1) .skip)) (.seq f23r3 (.cond (.tmp 12) (.exit 2) .skip))) (.exit 0))) (.seq f23r4 (.cond (.tmp 15) (.seq f23r5 .ret) .skip)))) (.seq (.seq (.seq f23r6 (.cond (.tmp 21) (.seq f23r7 .ret) .skip)) (.seq f23r8 (.seq f23r9 .ret))) (.exit 0))))) (.seq f23r10 .ret)))
abbrev f23 : Pfn := ⟨3, 35, [.tmp 6, .tmp 7], f23b⟩
def f23K : Array (List Nat) := #[[0, 1, 2], [0, 1, 2, 9], [0, 1, 2, 9, 10], [0, 1, 2, 12], [0, 1, 2, 15], [6, 7], [0, 1, 2, 21], [6, 7], [8], [6, 7], [6, 7]]
def f23H : Array (List Nat) := #[[], [], [], [], [], [], [], [], [], [], []]
def f23A : Ann := ⟨fun r => f23K.getD r [], fun r => f23H.getD r [], fun r i => ([(8, 1001)] : List (Nat × Nat)).contains (r, i)⟩
theorem f23C : compF Go.Proofs.Tryz.prog f23A 23 = some f23 := by kernel_rfl

/-- switchboard/port.Unpack -/
abbrev f24o0 : List (Nat × Pop) := [
  (0, ⟨(some 2), .mv (.c (.t (.i .u8 0))), none⟩),
  (1, ⟨(some 3), .mv (.c (.t (.i .i64 0))), none⟩),
  (2, ⟨(some 4), .mv (.c (.t (.s []))), none⟩),
  (3, ⟨(some 5), .mv (.c (.t (.i .i64 0))), none⟩)]
abbrev f24r0 : Pc := .reg f24o0 [0] []
abbrev f24o1 : List (Nat × Pop) := [
  (0, ⟨(some 10), .mv (.tmp 0), none⟩),
  (1, ⟨(some 11), .lenS (.tmp 10), none⟩),
  (2, ⟨(some 12), .bin .lss (.tmp 11) (.c (.t (.i .i64 9))), none⟩)]
abbrev f24r1 : Pc := .reg f24o1 [0, 12] []
abbrev f24o2 : List (Nat × Pop) := [
  (0, ⟨(some 2), .mv (.c (.t (.i .u8 0))), none⟩),
  (1, ⟨(some 3), .mv (.c (.t (.i .i64 0))), none⟩),
  (2, ⟨(some 4), .mv (.c (.t (.s []))), none⟩),
  (3, ⟨(some 5), .mv (.c (.t (.i .i64 2))), none⟩)]
abbrev f24r2 : Pc := .reg f24o2 [2, 3, 4, 5] []
abbrev f24o3 : List (Nat × Pop) := [
  (0, ⟨(some 13), .mv (.tmp 0), none⟩),
  (1, ⟨(some 14), .lenS (.tmp 13), none⟩),
  (2, ⟨(some 15), .bin .sub (.tmp 14) (.c (.t (.i .i64 4))), none⟩),
  (3, ⟨(some 6), .mv (.tmp 15), none⟩)]
abbrev f24r3 : Pc := .reg f24o3 [0, 6] []
abbrev f24o4 : List (Nat × Pop) := [
  (0, ⟨(some 16), .mv (.tmp 0), none⟩),
  (1, ⟨(some 17), .mv (.tmp 6), none⟩),
  (2, ⟨(some 18), .slS (.tmp 16) (some (.tmp 17)) none, none⟩),
  (3, ⟨(some 19), .mv (.tmp 0), none⟩),
  (4, ⟨(some 20), .mv (.tmp 6), none⟩),
  (5, ⟨(some 21), .slS (.tmp 19) none (some (.tmp 20)), none⟩),
  (6, ⟨(some 22), .callq 21 [(.tmp 21)], none⟩),
  (7, ⟨(some 23), .callq 40 [(.tmp 22)], none⟩),
  (8, ⟨(some 24), .bin .neq (.tmp 18) (.tmp 23), none⟩)]
abbrev f24r4 : Pc := .reg f24o4 [0, 6, 24] []
abbrev f24o5 : List (Nat × Pop) := [
  (0, ⟨(some 2), .mv (.c (.t (.i .u8 0))), none⟩),
  (1, ⟨(some 3), .mv (.c (.t (.i .i64 0))), none⟩),
  (2, ⟨(some 4), .mv (.c (.t (.s []))), none⟩),
  (3, ⟨(some 5), .mv (.c (.t (.i .i64 9))), none⟩)]
abbrev f24r5 : Pc := .reg f24o5 [2, 3, 4, 5] []
abbrev f24o6 : List (Nat × Pop) := [
  (0, ⟨(some 25), .mv (.tmp 0), none⟩),
  (1, ⟨(some 26), .ixs (.tmp 25) (.c (.t (.i .i64 1))), none⟩),
  (2, ⟨(some 27), .cvi .i64 (.tmp 26), none⟩),
  (3, ⟨(some 28), .mv (.tmp 0), none⟩),
  (4, ⟨(some 29), .ixs (.tmp 28) (.c (.t (.i .i64 2))), none⟩),
  (5, ⟨(some 30), .cvi .i64 (.tmp 29), none⟩),
  (6, ⟨(some 31), .bin .shl (.tmp 30) (.c (.t (.i .u64 8))), none⟩),
  (7, ⟨(some 32), .bin .or (.tmp 27) (.tmp 31), none⟩),
  (8, ⟨(some 33), .mv (.tmp 0), none⟩),
  (9, ⟨(some 34), .ixs (.tmp 33) (.c (.t (.i .i64 3))), none⟩),
  (10, ⟨(some 35), .cvi .i64 (.tmp 34), none⟩),
  (11, ⟨(some 36), .bin .shl (.tmp 35) (.c (.t (.i .u64 16))), none⟩),
  (12, ⟨(some 37), .bin .or (.tmp 32) (.tmp 36), none⟩),
  (13, ⟨(some 38), .mv (.tmp 0), none⟩),
  (14, ⟨(some 39), .ixs (.tmp 38) (.c (.t (.i .i64 4))), none⟩),
  (15, ⟨(some 40), .cvi .i64 (.tmp 39), none⟩),
  (16, ⟨(some 41), .bin .shl (.tmp 40) (.c (.t (.i .u64 24))), none⟩),
  (17, ⟨(some 42), .bin .or (.tmp 37) (.tmp 41), none⟩),
  (18, ⟨(some 7), .mv (.tmp 42), none⟩)]
abbrev f24r6 : Pc := .reg f24o6 [0, 6, 7] []
abbrev f24o7 : List (Nat × Pop) := [
  (0, ⟨(some 44), .mv (.tmp 0), none⟩),
  (1, ⟨(some 45), .ixs (.tmp 44) (.c (.t (.i .i64 0))), none⟩),
  (2, ⟨(some 46), .mv (.tmp 7), none⟩),
  (3, ⟨(some 47), .mv (.tmp 0), none⟩),
  (4, ⟨(some 48), .mv (.tmp 6), none⟩),
  (5, ⟨(some 49), .slS (.tmp 47) (some (.c (.t (.i .i64 5)))) (some (.tmp 48)), none⟩),
  (6, ⟨(some 50), .callq 23 [(.tmp 45), (.tmp 46), (.tmp 49)], none⟩),
  (7, ⟨(some 43), .mv (.tmp 50), none⟩),
  (8, ⟨(some 51), .ext 0 (.tmp 43), none⟩),
  (9, ⟨(some 52), .ext 1 (.tmp 43), none⟩),
  (10, ⟨(some 8), .mv (.tmp 51), none⟩),
  (11, ⟨(some 9), .mv (.tmp 52), none⟩)]
abbrev f24r7 : Pc := .reg f24o7 [0, 6, 7, 8, 9] []
abbrev f24o8 : List (Nat × Pop) := [
  (0, ⟨(some 53), .mv (.tmp 9), none⟩),
  (1, ⟨(some 54), .bin .neq (.tmp 53) (.c (.t (.i .i64 0))), none⟩),
  (2, ⟨(some 55), .mv (.tmp 54), none⟩),
  (3, ⟨(some 56), .mv (.tmp 8), (some (55, false))⟩),
  (4, ⟨(some 57), .mv (.tmp 0), (some (55, false))⟩),
  (5, ⟨(some 58), .bin .neq (.tmp 56) (.tmp 57), (some (55, false))⟩),
  (6, ⟨(some 59), .pick (.tmp 55) (.c (.t (.b true))) (.tmp 58), none⟩)]
abbrev f24r8 : Pc := .reg f24o8 [0, 6, 7, 59] []
abbrev f24o9 : List (Nat × Pop) := [
  (0, ⟨(some 2), .mv (.c (.t (.i .u8 0))), none⟩),
  (1, ⟨(some 3), .mv (.c (.t (.i .i64 0))), none⟩),
  (2, ⟨(some 4), .mv (.c (.t (.s []))), none⟩),
  (3, ⟨(some 5), .mv (.c (.t (.i .i64 2))), none⟩)]
abbrev f24r9 : Pc := .reg f24o9 [2, 3, 4, 5] []
abbrev f24o10 : List (Nat × Pop) := [
  (0, ⟨(some 60), .mv (.tmp 0), none⟩),
  (1, ⟨(some 61), .ixs (.tmp 60) (.c (.t (.i .i64 0))), none⟩),
  (2, ⟨(some 62), .mv (.tmp 7), none⟩),
  (3, ⟨(some 63), .mv (.tmp 0), none⟩),
  (4, ⟨(some 64), .mv (.tmp 6), none⟩),
  (5, ⟨(some 65), .slS (.tmp 63) (some (.c (.t (.i .i64 5)))) (some (.tmp 64)), none⟩),
  (6, ⟨(some 2), .mv (.tmp 61), none⟩),
  (7, ⟨(some 3), .mv (.tmp 62), none⟩),
  (8, ⟨(some 4), .mv (.tmp 65), none⟩),
  (9, ⟨(some 5), .mv (.c (.t (.i .i64 0))), none⟩)]
abbrev f24r10 : Pc := .reg f24o10 [2, 3, 4, 5] []
abbrev f24b : Pc := (.seq f24r0 (.seq (.seq f24r1 (.cond (.tmp 12) (.seq f24r2 .ret) .skip)) (.seq f24r3 (.seq (.seq f24r4 (.cond (.tmp 24) (.seq f24r5 .ret) .skip)) (.seq f24r6 (.seq (.seq f24r7 (.seq f24r8 (.cond (.tmp 59) (.seq f24r9 .ret) .skip))) (.seq f24r10 .ret)))))))
abbrev f24 : Pfn := ⟨1, 66, [.tmp 2, .tmp 3, .tmp 4, .tmp 5], f24b⟩
def f24K : Array (List Nat) := #[[0], [0, 12], [2, 3, 4, 5], [0, 6], [0, 6, 24], [2, 3, 4, 5], [0, 6, 7], [0, 6, 7, 8, 9], [0, 6, 7, 59], [2, 3, 4, 5], [2, 3, 4, 5]]
def f24H : Array (List Nat) := #[[], [], [], [], [], [], [], [], [], [], []]
def f24A : Ann := ⟨fun r => f24K.getD r [], fun r => f24H.getD r [], fun r i => ([] : List (Nat × Nat)).contains (r, i)⟩
theorem f24C : compF Go.Proofs.Tryz.prog f24A 24 = some f24 := by kernel_rfl

/-- switchboard/link.Told -/
abbrev f25o0 : List (Nat × Pop) := [
  (0, ⟨(some 2), .box 37 2 (.tmp 0), none⟩),
  (1, ⟨(some 3), .box 3 1 (.tmp 1), none⟩),
  (2, ⟨(some 4), .alloc 37 [(.t (.i .i64 0)), .nl], none⟩)]
abbrev f25r0 : Pc := .reg f25o0 [2, 3, 4] []
abbrev f25o1 : List (Nat × Pop) := [
  (0, ⟨(some 5), .fad 1 (.tmp 2), none⟩),
  (1, ⟨(some 6), .load false 1 (.tmp 5), none⟩),
  (2, ⟨(some 7), .call 39 [(.tmp 6)], none⟩),
  (3, ⟨(some 8), .mkfn 42 [(.tmp 3)], none⟩),
  (4, ⟨(some 9), .call 41 [(.tmp 7), (.tmp 8)], none⟩),
  (5, ⟨(some 10), .fad 1 (.tmp 2), none⟩),
  (6, ⟨none, .store 1 (.tmp 10) (.tmp 9), none⟩)]
abbrev f25r1 : Pc := .reg f25o1 [2, 4] []
abbrev f25o2 : List (Nat × Pop) := [
  (0, ⟨(some 11), .load true 2 (.tmp 2), none⟩),
  (1, ⟨none, .store 2 (.tmp 4) (.tmp 11), none⟩)]
abbrev f25r2 : Pc := .reg f25o2 [4] []
abbrev f25b : Pc := (.seq f25r0 (.seq f25r1 (.seq f25r2 .ret)))
abbrev f25 : Pfn := ⟨2, 12, [.cell 4 true 2], f25b⟩
def f25K : Array (List Nat) := #[[2, 3, 4], [2, 4], [4]]
def f25H : Array (List Nat) := #[[], [], []]
def f25A : Ann := ⟨fun r => f25K.getD r [], fun r => f25H.getD r [], fun r i => ([] : List (Nat × Nat)).contains (r, i)⟩
theorem f25C : compF Go.Proofs.Tryz.prog f25A 25 = some f25 := by kernel_rfl

/-- switchboard/window.Accept -/
abbrev f26o0 : List (Nat × Pop) := [
  (0, ⟨(some 2), .box 40 2 (.tmp 0), none⟩),
  (1, ⟨(some 4), .alloc 40 [(.t (.i .i64 0)), .nl], none⟩),
  (2, ⟨(some 5), .mv (.c (.t (.b false))), none⟩)]
abbrev f26r0 : Pc := .reg f26o0 [1, 2, 4] []
abbrev f26o1 : List (Nat × Pop) := [
  (0, ⟨(some 7), .load true 2 (.tmp 2), none⟩),
  (1, ⟨(some 8), .call 43 [(.tmp 7)], none⟩),
  (2, ⟨(some 9), .un .not (.tmp 8), none⟩),
  (3, ⟨(some 10), .mv (.tmp 9), none⟩),
  (4, ⟨(some 11), .mv (.tmp 1), (some (10, false))⟩),
  (5, ⟨(some 12), .bin .gtr (.tmp 11) (.c (.t (.i .i64 2147483647))), (some (10, false))⟩),
  (6, ⟨(some 13), .pick (.tmp 10) (.c (.t (.b true))) (.tmp 12), none⟩),
  (7, ⟨(some 14), .mv (.tmp 13), none⟩),
  (8, ⟨(some 15), .mv (.tmp 1), (some (14, false))⟩),
  (9, ⟨(some 16), .fad 0 (.tmp 2), (some (14, false))⟩),
  (10, ⟨(some 17), .load false 1 (.tmp 16), (some (14, false))⟩),
  (11, ⟨(some 18), .bin .lss (.tmp 15) (.tmp 17), (some (14, false))⟩),
  (12, ⟨(some 19), .pick (.tmp 14) (.c (.t (.b true))) (.tmp 18), none⟩),
  (13, ⟨(some 20), .mv (.tmp 19), none⟩),
  (14, ⟨(some 21), .fad 1 (.tmp 2), (some (20, false))⟩),
  (15, ⟨(some 22), .load false 1 (.tmp 21), (some (20, false))⟩),
  (16, ⟨(some 23), .mv (.tmp 1), (some (20, false))⟩),
  (17, ⟨(some 24), .call 44 [(.tmp 22), (.tmp 23)], (some (20, false))⟩),
  (18, ⟨(some 25), .pick (.tmp 20) (.c (.t (.b true))) (.tmp 24), none⟩)]
abbrev f26r1 : Pc := .reg f26o1 [1, 2, 4, 25] []
abbrev f26o2 : List (Nat × Pop) := [
  (0, ⟨(some 26), .load true 2 (.tmp 2), none⟩),
  (1, ⟨none, .store 2 (.tmp 4) (.tmp 26), none⟩),
  (2, ⟨(some 5), .mv (.c (.t (.b false))), none⟩)]
abbrev f26r2 : Pc := .reg f26o2 [4, 5] [2]
abbrev f26o3 : List (Nat × Pop) := [
  (0, ⟨(some 27), .fad 1 (.tmp 2), none⟩),
  (1, ⟨(some 28), .load false 1 (.tmp 27), none⟩),
  (2, ⟨(some 29), .call 45 [(.tmp 28)], none⟩),
  (3, ⟨(some 30), .mv (.tmp 1), none⟩),
  (4, ⟨(some 31), .bslT 1 [(.tmp 30)], none⟩),
  (5, ⟨(some 32), .app 3 1 8 (.tmp 29) (.tmp 31), none⟩),
  (6, ⟨(some 6), .mv (.tmp 32), none⟩)]
abbrev f26r3 : Pc := .reg f26o3 [2, 4, 6] []
abbrev f26o4 : List (Nat × Pop) := [
  (0, ⟨(some 33), .mv (.tmp 6), none⟩),
  (1, ⟨(some 34), .call 46 [(.tmp 33)], none⟩)]
abbrev f26r4 : Pc := .reg f26o4 [2, 4, 6] []
abbrev f26o5 : List (Nat × Pop) := [
  (0, ⟨(some 35), .mv (.tmp 6), none⟩),
  (1, ⟨(some 36), .lenL (.tmp 35), none⟩),
  (2, ⟨(some 37), .bin .gtr (.tmp 36) (.c (.t (.i .i64 32))), none⟩)]
abbrev f26r5 : Pc := .reg f26o5 [2, 4, 6, 37] []
abbrev f26o6 : List (Nat × Pop) := [
  (0, ⟨(some 38), .mv (.tmp 6), none⟩),
  (1, ⟨(some 39), .ixS 1 (.tmp 38) (.c (.t (.i .i64 0))), none⟩),
  (2, ⟨(some 40), .load false 1 (.tmp 39), none⟩),
  (3, ⟨(some 41), .bin .add (.tmp 40) (.c (.t (.i .i64 1))), none⟩),
  (4, ⟨(some 42), .mv (.tmp 6), none⟩),
  (5, ⟨(some 43), .sls 1 (.tmp 42) (some (.c (.t (.i .i64 1)))) none, none⟩),
  (6, ⟨(some 44), .fad 0 (.tmp 2), none⟩),
  (7, ⟨none, .store 1 (.tmp 44) (.tmp 41), none⟩),
  (8, ⟨(some 6), .mv (.tmp 43), none⟩)]
abbrev f26r6 : Pc := .reg f26o6 [2, 4, 6] []
def f26l0 : Pc := (.seq (.seq f26r5 (.cond (.tmp 37) .skip (.exit 0))) (.block 1 f26r6))
theorem f26l0e (C : Cfg) (s : St) : evL C f26l0 s = evL C (.seq (.seq f26r5 (.cond (.tmp 37) .skip (.exit 0))) (.block 1 f26r6)) s := rfl
abbrev f26o7 : List (Nat × Pop) := [
  (0, ⟨(some 45), .mv (.tmp 6), none⟩),
  (1, ⟨(some 46), .lenL (.tmp 45), none⟩),
  (2, ⟨(some 47), .bin .gtr (.tmp 46) (.c (.t (.i .i64 0))), none⟩),
  (3, ⟨(some 48), .mv (.tmp 47), none⟩),
  (4, ⟨(some 49), .mv (.tmp 6), (some (48, true))⟩),
  (5, ⟨(some 50), .ixS 1 (.tmp 49) (.c (.t (.i .i64 0))), (some (48, true))⟩),
  (6, ⟨(some 51), .load false 1 (.tmp 50), (some (48, true))⟩),
  (7, ⟨(some 52), .fad 0 (.tmp 2), (some (48, true))⟩),
  (8, ⟨(some 53), .load false 1 (.tmp 52), (some (48, true))⟩),
  (9, ⟨(some 54), .bin .eql (.tmp 51) (.tmp 53), (some (48, true))⟩),
  (10, ⟨(some 55), .pick (.tmp 48) (.tmp 54) (.c (.t (.b false))), none⟩)]
abbrev f26r7 : Pc := .reg f26o7 [2, 4, 6, 55] []
abbrev f26o8 : List (Nat × Pop) := [
  (0, ⟨(some 56), .fad 0 (.tmp 2), none⟩),
  (1, ⟨(some 57), .load false 1 (.tmp 56), none⟩),
  (2, ⟨(some 58), .bin .add (.tmp 57) (.c (.t (.i .i64 1))), none⟩),
  (3, ⟨(some 59), .mv (.tmp 6), none⟩),
  (4, ⟨(some 60), .sls 1 (.tmp 59) (some (.c (.t (.i .i64 1)))) none, none⟩),
  (5, ⟨(some 61), .fad 0 (.tmp 2), none⟩),
  (6, ⟨none, .store 1 (.tmp 61) (.tmp 58), none⟩),
  (7, ⟨(some 6), .mv (.tmp 60), none⟩)]
abbrev f26r8 : Pc := .reg f26o8 [2, 4, 6] []
def f26l1 : Pc := (.seq (.seq f26r7 (.cond (.tmp 55) .skip (.exit 2))) (.block 3 f26r8))
theorem f26l1e (C : Cfg) (s : St) : evL C f26l1 s = evL C (.seq (.seq f26r7 (.cond (.tmp 55) .skip (.exit 2))) (.block 3 f26r8)) s := rfl
abbrev f26o9 : List (Nat × Pop) := [
  (0, ⟨(some 62), .mv (.tmp 6), none⟩),
  (1, ⟨(some 63), .call 45 [(.tmp 62)], none⟩),
  (2, ⟨(some 64), .fad 1 (.tmp 2), none⟩),
  (3, ⟨none, .store 1 (.tmp 64) (.tmp 63), none⟩)]
abbrev f26r9 : Pc := .reg f26o9 [2, 4] [29, 32]
abbrev f26o10 : List (Nat × Pop) := [
  (0, ⟨(some 65), .load true 2 (.tmp 2), none⟩),
  (1, ⟨none, .store 2 (.tmp 4) (.tmp 65), none⟩),
  (2, ⟨(some 5), .mv (.c (.t (.b true))), none⟩)]
abbrev f26r10 : Pc := .reg f26o10 [4, 5] [2]
abbrev f26b : Pc := (.seq f26r0 (.seq (.seq f26r1 (.cond (.tmp 25) (.seq f26r2 .ret) .skip)) (.seq f26r3 (.seq f26r4 (.seq (.block 0 (.loop f26l0)) (.seq (.block 2 (.loop f26l1)) (.seq f26r9 (.seq f26r10 .ret))))))))
abbrev f26 : Pfn := ⟨2, 66, [.cell 4 true 2, .tmp 5], f26b⟩
def f26K : Array (List Nat) := #[[1, 2, 4], [1, 2, 4, 25], [4, 5], [2, 4, 6], [2, 4, 6], [2, 4, 6, 37], [2, 4, 6], [2, 4, 6, 55], [2, 4, 6], [2, 4], [4, 5]]
def f26H : Array (List Nat) := #[[], [], [2], [], [], [], [], [], [], [29, 32], [2]]
def f26A : Ann := ⟨fun r => f26K.getD r [], fun r => f26H.getD r [], fun r i => ([] : List (Nat × Nat)).contains (r, i)⟩
theorem f26C : compF Go.Proofs.Tryz.prog f26A 26 = some f26 := by kernel_rfl

/-- switchboard/chunk.number -/
abbrev f27o0 : List (Nat × Pop) := [
  (0, ⟨(some 4), .mv (.c (.t (.i .i64 0))), none⟩)]
abbrev f27r0 : Pc := .reg f27o0 [0, 1] []
abbrev f27o1 : List (Nat × Pop) := [
  (0, ⟨(some 5), .mv (.tmp 0), none⟩),
  (1, ⟨(some 6), .mv (.tmp 1), none⟩),
  (2, ⟨(some 7), .bin .mul (.c (.t (.i .i64 4))) (.tmp 6), none⟩),
  (3, ⟨(some 8), .ixs (.tmp 5) (.tmp 7), none⟩),
  (4, ⟨(some 9), .cvi .u32 (.tmp 8), none⟩),
  (5, ⟨(some 10), .mv (.tmp 0), none⟩),
  (6, ⟨(some 11), .mv (.tmp 1), none⟩),
  (7, ⟨(some 12), .bin .mul (.c (.t (.i .i64 4))) (.tmp 11), none⟩),
  (8, ⟨(some 13), .bin .add (.tmp 12) (.c (.t (.i .i64 1))), none⟩),
  (9, ⟨(some 14), .ixs (.tmp 10) (.tmp 13), none⟩),
  (10, ⟨(some 15), .cvi .u32 (.tmp 14), none⟩),
  (11, ⟨(some 16), .bin .shl (.tmp 15) (.c (.t (.i .u64 8))), none⟩),
  (12, ⟨(some 17), .bin .or (.tmp 9) (.tmp 16), none⟩),
  (13, ⟨(some 18), .mv (.tmp 0), none⟩),
  (14, ⟨(some 19), .mv (.tmp 1), none⟩),
  (15, ⟨(some 20), .bin .mul (.c (.t (.i .i64 4))) (.tmp 19), none⟩),
  (16, ⟨(some 21), .bin .add (.tmp 20) (.c (.t (.i .i64 2))), none⟩),
  (17, ⟨(some 22), .ixs (.tmp 18) (.tmp 21), none⟩),
  (18, ⟨(some 23), .cvi .u32 (.tmp 22), none⟩),
  (19, ⟨(some 24), .bin .shl (.tmp 23) (.c (.t (.i .u64 16))), none⟩),
  (20, ⟨(some 25), .bin .or (.tmp 17) (.tmp 24), none⟩),
  (21, ⟨(some 26), .mv (.tmp 0), none⟩),
  (22, ⟨(some 27), .mv (.tmp 1), none⟩),
  (23, ⟨(some 28), .bin .mul (.c (.t (.i .i64 4))) (.tmp 27), none⟩),
  (24, ⟨(some 29), .bin .add (.tmp 28) (.c (.t (.i .i64 3))), none⟩),
  (25, ⟨(some 30), .ixs (.tmp 26) (.tmp 29), none⟩),
  (26, ⟨(some 31), .cvi .u32 (.tmp 30), none⟩),
  (27, ⟨(some 32), .bin .shl (.tmp 31) (.c (.t (.i .u64 24))), none⟩),
  (28, ⟨(some 33), .bin .or (.tmp 25) (.tmp 32), none⟩),
  (29, ⟨(some 34), .cvi .i32 (.tmp 33), none⟩),
  (30, ⟨(some 35), .cvi .i64 (.tmp 34), none⟩),
  (31, ⟨(some 4), .mv (.tmp 35), none⟩)]
abbrev f27r1 : Pc := .reg f27o1 [4] []
abbrev f27b : Pc := (.seq f27r0 (.seq f27r1 .ret))
abbrev f27 : Pfn := ⟨2, 36, [.tmp 4], f27b⟩
def f27K : Array (List Nat) := #[[0, 1], [4]]
def f27H : Array (List Nat) := #[[], []]
def f27A : Ann := ⟨fun r => f27K.getD r [], fun r => f27H.getD r [], fun r i => ([] : List (Nat × Nat)).contains (r, i)⟩
theorem f27C : compF Go.Proofs.Tryz.prog f27A 27 = some f27 := by kernel_rfl

/-- switchboard/chunk.rows -/
abbrev f28o0 : List (Nat × Pop) := [
  (0, ⟨(some 8), .nilv 38 1, none⟩)]
abbrev f28r0 : Pc := .reg f28o0 [0, 1, 2, 3] [8, 9, 37]
abbrev f28o1 : List (Nat × Pop) := [
  (0, ⟨(some 9), .nilv 38 1, none⟩)]
abbrev f28r1 : Pc := .reg f28o1 [0, 1, 2, 3, 9] []
abbrev f28o2 : List (Nat × Pop) := [
  (0, ⟨(some 13), .mv (.tmp 2), none⟩),
  (1, ⟨(some 14), .mv (.c (.t (.i .i64 0))), none⟩)]
abbrev f28r2 : Pc := .reg f28o2 [0, 1, 3, 9, 13, 14] []
abbrev f28o3 : List (Nat × Pop) := [
  (0, ⟨(some 15), .bin .lss (.tmp 14) (.tmp 13), none⟩)]
abbrev f28r3 : Pc := .reg f28o3 [0, 1, 3, 9, 13, 14, 15] []
abbrev f28o4 : List (Nat × Pop) := [
  (0, ⟨(some 16), .mv (.tmp 14), none⟩),
  (1, ⟨(some 10), .mv (.tmp 16), none⟩)]
abbrev f28r4 : Pc := .reg f28o4 [0, 1, 3, 9, 10, 13, 14] []
abbrev f28o5 : List (Nat × Pop) := [
  (0, ⟨(some 11), .nilv 3 1, none⟩)]
abbrev f28r5 : Pc := .reg f28o5 [0, 1, 3, 9, 10, 11, 13, 14] []
abbrev f28o6 : List (Nat × Pop) := [
  (0, ⟨(some 17), .mv (.tmp 3), none⟩),
  (1, ⟨(some 18), .mv (.c (.t (.i .i64 0))), none⟩)]
abbrev f28r6 : Pc := .reg f28o6 [0, 1, 3, 9, 10, 11, 13, 14, 17, 18] []
abbrev f28o7 : List (Nat × Pop) := [
  (0, ⟨(some 19), .bin .lss (.tmp 18) (.tmp 17), none⟩)]
abbrev f28r7 : Pc := .reg f28o7 [0, 1, 3, 9, 10, 11, 13, 14, 17, 18, 19] []
abbrev f28o8 : List (Nat × Pop) := [
  (0, ⟨(some 20), .mv (.tmp 18), none⟩),
  (1, ⟨(some 12), .mv (.tmp 20), none⟩)]
abbrev f28r8 : Pc := .reg f28o8 [0, 1, 3, 9, 10, 11, 12, 13, 14, 17, 18] []
abbrev f28o9 : List (Nat × Pop) := [
  (0, ⟨(some 21), .mv (.tmp 11), none⟩),
  (1, ⟨(some 22), .mv (.tmp 0), none⟩),
  (2, ⟨(some 23), .mv (.tmp 1), none⟩),
  (3, ⟨(some 24), .mv (.tmp 10), none⟩),
  (4, ⟨(some 25), .mv (.tmp 3), none⟩),
  (5, ⟨(some 26), .bin .mul (.tmp 24) (.tmp 25), none⟩),
  (6, ⟨(some 27), .bin .add (.tmp 23) (.tmp 26), none⟩),
  (7, ⟨(some 28), .mv (.tmp 12), none⟩),
  (8, ⟨(some 29), .bin .add (.tmp 27) (.tmp 28), none⟩),
  (9, ⟨(some 30), .call 27 [(.tmp 22), (.tmp 29)], none⟩),
  (10, ⟨(some 31), .bslT 1 [(.tmp 30)], none⟩),
  (11, ⟨(some 32), .app 3 1 8 (.tmp 21) (.tmp 31), none⟩),
  (12, ⟨(some 11), .mv (.tmp 32), none⟩)]
abbrev f28r9 : Pc := .reg f28o9 [0, 1, 3, 9, 10, 11, 13, 14, 17, 18] []
abbrev f28o10 : List (Nat × Pop) := [
  (0, ⟨(some 33), .bin .add (.tmp 18) (.c (.t (.i .i64 1))), none⟩),
  (1, ⟨(some 18), .mv (.tmp 33), none⟩)]
abbrev f28r10 : Pc := .reg f28o10 [0, 1, 3, 9, 10, 11, 13, 14, 17, 18] []
def f28l0 : Pc := (.seq f28r7 (.seq (.cond (.tmp 19) .skip (.exit 2)) (.seq (.block 3 (.seq f28r8 f28r9)) f28r10)))
theorem f28l0e (C : Cfg) (s : St) : evL C f28l0 s = evL C (.seq f28r7 (.seq (.cond (.tmp 19) .skip (.exit 2)) (.seq (.block 3 (.seq f28r8 f28r9)) f28r10))) s := rfl
abbrev f28o11 : List (Nat × Pop) := [
  (0, ⟨(some 34), .mv (.tmp 9), none⟩),
  (1, ⟨(some 35), .mv (.tmp 11), none⟩),
  (2, ⟨(some 36), .bslT 1 [(.tmp 35)], none⟩),
  (3, ⟨(some 37), .app 38 1 24 (.tmp 34) (.tmp 36), none⟩),
  (4, ⟨(some 9), .mv (.tmp 37), none⟩)]
abbrev f28r11 : Pc := .reg f28o11 [0, 1, 3, 9, 13, 14] [11, 32]
abbrev f28o12 : List (Nat × Pop) := [
  (0, ⟨(some 38), .bin .add (.tmp 14) (.c (.t (.i .i64 1))), none⟩),
  (1, ⟨(some 14), .mv (.tmp 38), none⟩)]
abbrev f28r12 : Pc := .reg f28o12 [0, 1, 3, 9, 13, 14] []
def f28l1 : Pc := (.seq f28r3 (.seq (.cond (.tmp 15) .skip (.exit 0)) (.seq (.block 1 (.seq f28r4 (.seq f28r5 (.seq (.seq f28r6 (.block 2 (.loop f28l0))) f28r11)))) f28r12)))
theorem f28l1e (C : Cfg) (s : St) : evL C f28l1 s = evL C (.seq f28r3 (.seq (.cond (.tmp 15) .skip (.exit 0)) (.seq (.block 1 (.seq f28r4 (.seq f28r5 (.seq (.seq f28r6 (.block 2 (.loop f28l0))) f28r11)))) f28r12))) s := rfl
abbrev f28o13 : List (Nat × Pop) := [
  (0, ⟨(some 39), .mv (.tmp 9), none⟩),
  (1, ⟨(some 8), .mv (.tmp 39), none⟩)]
abbrev f28r13 : Pc := .reg f28o13 [8] []
abbrev f28b : Pc := (.seq f28r0 (.seq f28r1 (.seq (.seq f28r2 (.block 0 (.loop f28l1))) (.seq f28r13 .ret))))
abbrev f28 : Pfn := ⟨4, 40, [.tmp 8], f28b⟩
def f28K : Array (List Nat) := #[[0, 1, 2, 3], [0, 1, 2, 3, 9], [0, 1, 3, 9, 13, 14], [0, 1, 3, 9, 13, 14, 15], [0, 1, 3, 9, 10, 13, 14], [0, 1, 3, 9, 10, 11, 13, 14], [0, 1, 3, 9, 10, 11, 13, 14, 17, 18], [0, 1, 3, 9, 10, 11, 13, 14, 17, 18, 19], [0, 1, 3, 9, 10, 11, 12, 13, 14, 17, 18], [0, 1, 3, 9, 10, 11, 13, 14, 17, 18], [0, 1, 3, 9, 10, 11, 13, 14, 17, 18], [0, 1, 3, 9, 13, 14], [0, 1, 3, 9, 13, 14], [8]]
def f28H : Array (List Nat) := #[[8, 9, 37], [], [], [], [], [], [], [], [], [], [], [11, 32], [], []]
def f28A : Ann := ⟨fun r => f28K.getD r [], fun r => f28H.getD r [], fun r i => ([] : List (Nat × Nat)).contains (r, i)⟩
theorem f28C : compF Go.Proofs.Tryz.prog f28A 28 = some f28 := by kernel_rfl

/-- switchboard/switchboardref02.Same -/
abbrev f30o0 : List (Nat × Pop) := [
  (0, ⟨(some 4), .mv (.c (.t (.b false))), none⟩)]
abbrev f30r0 : Pc := .reg f30o0 [0, 1] []
abbrev f30o1 : List (Nat × Pop) := [
  (0, ⟨(some 6), .mv (.tmp 0), none⟩),
  (1, ⟨(some 7), .lenL (.tmp 6), none⟩),
  (2, ⟨(some 8), .mv (.tmp 1), none⟩),
  (3, ⟨(some 9), .lenL (.tmp 8), none⟩),
  (4, ⟨(some 10), .bin .neq (.tmp 7) (.tmp 9), none⟩)]
abbrev f30r1 : Pc := .reg f30o1 [0, 1, 10] []
abbrev f30o2 : List (Nat × Pop) := [
  (0, ⟨(some 4), .mv (.c (.t (.b false))), none⟩)]
abbrev f30r2 : Pc := .reg f30o2 [4] []
abbrev f30o3 : List (Nat × Pop) := [
  (0, ⟨(some 5), .mv (.c (.t (.i .i64 0))), none⟩)]
abbrev f30r3 : Pc := .reg f30o3 [0, 1, 5] []
abbrev f30o4 : List (Nat × Pop) := [
  (0, ⟨(some 11), .mv (.tmp 5), none⟩),
  (1, ⟨(some 12), .mv (.tmp 0), none⟩),
  (2, ⟨(some 13), .lenL (.tmp 12), none⟩),
  (3, ⟨(some 14), .bin .lss (.tmp 11) (.tmp 13), none⟩)]
abbrev f30r4 : Pc := .reg f30o4 [0, 1, 5, 14] []
abbrev f30o6 : List (Nat × Pop) := [
  (0, ⟨(some 17), .mv (.tmp 0), none⟩),
  (1, ⟨(some 18), .mv (.tmp 5), none⟩),
  (2, ⟨(some 19), .ixS 1 (.tmp 17) (.tmp 18), none⟩),
  (3, ⟨(some 20), .load false 1 (.tmp 19), none⟩),
  (4, ⟨(some 21), .mv (.tmp 1), none⟩),
  (5, ⟨(some 22), .mv (.tmp 5), none⟩),
  (6, ⟨(some 23), .ixS 1 (.tmp 21) (.tmp 22), none⟩),
  (7, ⟨(some 24), .load false 1 (.tmp 23), none⟩),
  (8, ⟨(some 25), .bin .neq (.tmp 20) (.tmp 24), none⟩)]
abbrev f30r6 : Pc := .reg f30o6 [0, 1, 5, 25] []
abbrev f30o7 : List (Nat × Pop) := [
  (0, ⟨(some 4), .mv (.c (.t (.b false))), none⟩)]
abbrev f30r7 : Pc := .reg f30o7 [4] []
abbrev f30o5 : List (Nat × Pop) := [
  (0, ⟨(some 15), .mv (.tmp 5), none⟩),
  (1, ⟨(some 16), .bin .add (.tmp 15) (.c (.t (.i .i64 1))), none⟩),
  (2, ⟨(some 5), .mv (.tmp 16), none⟩)]
abbrev f30r5 : Pc := .reg f30o5 [0, 1, 5] []
def f30l0 : Pc := (.seq (.seq f30r4 (.cond (.tmp 14) .skip (.exit 0))) (.seq (.block 1 (.seq f30r6 (.cond (.tmp 25) (.seq f30r7 .ret) .skip))) f30r5))
theorem f30l0e (C : Cfg) (s : St) : evL C f30l0 s = evL C (.seq (.seq f30r4 (.cond (.tmp 14) .skip (.exit 0))) (.seq (.block 1 (.seq f30r6 (.cond (.tmp 25) (.seq f30r7 .ret) .skip))) f30r5)) s := rfl
abbrev f30o8 : List (Nat × Pop) := [
  (0, ⟨(some 4), .mv (.c (.t (.b true))), none⟩)]
abbrev f30r8 : Pc := .reg f30o8 [4] []
abbrev f30b : Pc := (.seq f30r0 (.seq (.seq f30r1 (.cond (.tmp 10) (.seq f30r2 .ret) .skip)) (.seq (.seq f30r3 (.block 0 (.loop f30l0))) (.seq f30r8 .ret))))
abbrev f30 : Pfn := ⟨2, 26, [.tmp 4], f30b⟩
def f30K : Array (List Nat) := #[[0, 1], [0, 1, 10], [4], [0, 1, 5], [0, 1, 5, 14], [0, 1, 5], [0, 1, 5, 25], [4], [4]]
def f30H : Array (List Nat) := #[[], [], [], [], [], [], [], [], []]
def f30A : Ann := ⟨fun r => f30K.getD r [], fun r => f30H.getD r [], fun r i => ([] : List (Nat × Nat)).contains (r, i)⟩
theorem f30C : compF Go.Proofs.Tryz.prog f30A 30 = some f30 := by kernel_rfl

/-- switchboard/model.Right -/
abbrev f31o0 : List (Nat × Pop) := [
  (0, ⟨(some 1), .box 60 2 (.tmp 0), none⟩),
  (1, ⟨(some 2), .mv (.c (.t (.b false))), none⟩)]
abbrev f31r0 : Pc := .reg f31o0 [1] []
abbrev f31o1 : List (Nat × Pop) := [
  (0, ⟨(some 3), .fad 0 (.tmp 1), none⟩),
  (1, ⟨(some 4), .load false 1 (.tmp 3), none⟩),
  (2, ⟨(some 5), .bin .geq (.tmp 4) (.c (.t (.i .i64 1))), none⟩),
  (3, ⟨(some 6), .mv (.tmp 5), none⟩),
  (4, ⟨(some 7), .fad 0 (.tmp 1), (some (6, true))⟩),
  (5, ⟨(some 8), .load false 1 (.tmp 7), (some (6, true))⟩),
  (6, ⟨(some 9), .bin .leq (.tmp 8) (.c (.t (.i .i64 8))), (some (6, true))⟩),
  (7, ⟨(some 10), .pick (.tmp 6) (.tmp 9) (.c (.t (.b false))), none⟩),
  (8, ⟨(some 11), .mv (.tmp 10), none⟩),
  (9, ⟨(some 12), .fad 1 (.tmp 1), (some (11, true))⟩),
  (10, ⟨(some 13), .load false 1 (.tmp 12), (some (11, true))⟩),
  (11, ⟨(some 14), .lenL (.tmp 13), (some (11, true))⟩),
  (12, ⟨(some 15), .bin .geq (.tmp 14) (.c (.t (.i .i64 1))), (some (11, true))⟩),
  (13, ⟨(some 16), .pick (.tmp 11) (.tmp 15) (.c (.t (.b false))), none⟩),
  (14, ⟨(some 17), .mv (.tmp 16), none⟩),
  (15, ⟨(some 18), .fad 1 (.tmp 1), (some (17, true))⟩),
  (16, ⟨(some 19), .load false 1 (.tmp 18), (some (17, true))⟩),
  (17, ⟨(some 20), .lenL (.tmp 19), (some (17, true))⟩),
  (18, ⟨(some 21), .bin .leq (.tmp 20) (.c (.t (.i .i64 4))), (some (17, true))⟩),
  (19, ⟨(some 22), .pick (.tmp 17) (.tmp 21) (.c (.t (.b false))), none⟩),
  (20, ⟨(some 23), .mv (.tmp 22), none⟩),
  (21, ⟨(some 24), .fad 1 (.tmp 1), (some (23, true))⟩),
  (22, ⟨(some 25), .load false 1 (.tmp 24), (some (23, true))⟩),
  (23, ⟨(some 26), .mkfn 49 [(.tmp 1)], (some (23, true))⟩),
  (24, ⟨(some 27), .call 48 [(.tmp 25), (.tmp 26)], (some (23, true))⟩),
  (25, ⟨(some 28), .un .not (.tmp 27), (some (23, true))⟩),
  (26, ⟨(some 29), .pick (.tmp 23) (.tmp 28) (.c (.t (.b false))), none⟩),
  (27, ⟨(some 2), .mv (.tmp 29), none⟩)]
abbrev f31r1 : Pc := .reg f31o1 [2] [1]
abbrev f31b : Pc := (.seq f31r0 (.seq f31r1 .ret))
abbrev f31 : Pfn := ⟨1, 30, [.tmp 2], f31b⟩
def f31K : Array (List Nat) := #[[1], [2]]
def f31H : Array (List Nat) := #[[], [1]]
def f31A : Ann := ⟨fun r => f31K.getD r [], fun r => f31H.getD r [], fun r i => ([] : List (Nat × Nat)).contains (r, i)⟩
theorem f31C : compF Go.Proofs.Tryz.prog f31A 31 = some f31 := by kernel_rfl

/-- switchboard/model.Tokens -/
abbrev f32o0 : List (Nat × Pop) := [
  (0, ⟨(some 2), .box 60 2 (.tmp 0), none⟩),
  (1, ⟨(some 4), .mv (.c (.t (.b false))), none⟩)]
abbrev f32r0 : Pc := .reg f32o0 [1, 2] []
abbrev f32o1 : List (Nat × Pop) := [
  (0, ⟨(some 5), .mv (.tmp 1), none⟩),
  (1, ⟨(some 6), .lenL (.tmp 5), none⟩),
  (2, ⟨(some 7), .bin .geq (.tmp 6) (.c (.t (.i .i64 1))), none⟩),
  (3, ⟨(some 8), .mv (.tmp 7), none⟩),
  (4, ⟨(some 9), .mv (.tmp 1), (some (8, true))⟩),
  (5, ⟨(some 10), .lenL (.tmp 9), (some (8, true))⟩),
  (6, ⟨(some 11), .bin .leq (.tmp 10) (.c (.t (.i .i64 16))), (some (8, true))⟩),
  (7, ⟨(some 12), .pick (.tmp 8) (.tmp 11) (.c (.t (.b false))), none⟩),
  (8, ⟨(some 13), .mv (.tmp 12), none⟩),
  (9, ⟨(some 14), .mv (.tmp 1), (some (13, true))⟩),
  (10, ⟨(some 15), .mkfn 52 [(.tmp 2)], (some (13, true))⟩),
  (11, ⟨(some 16), .call 51 [(.tmp 14), (.tmp 15)], (some (13, true))⟩),
  (12, ⟨(some 17), .un .not (.tmp 16), (some (13, true))⟩),
  (13, ⟨(some 18), .pick (.tmp 13) (.tmp 17) (.c (.t (.b false))), none⟩),
  (14, ⟨(some 4), .mv (.tmp 18), none⟩)]
abbrev f32r1 : Pc := .reg f32o1 [4] [2]
abbrev f32b : Pc := (.seq f32r0 (.seq f32r1 .ret))
abbrev f32 : Pfn := ⟨2, 19, [.tmp 4], f32b⟩
def f32K : Array (List Nat) := #[[1, 2], [4]]
def f32H : Array (List Nat) := #[[], [2]]
def f32A : Ann := ⟨fun r => f32K.getD r [], fun r => f32H.getD r [], fun r i => ([] : List (Nat × Nat)).contains (r, i)⟩
theorem f32C : compF Go.Proofs.Tryz.prog f32A 32 = some f32 := by kernel_rfl

/-- switchboard/model.Parts -/
abbrev f33o0 : List (Nat × Pop) := [
  (0, ⟨(some 2), .box 57 3 (.tmp 0), none⟩),
  (1, ⟨(some 4), .nilv 93 4, none⟩)]
abbrev f33r0 : Pc := .reg f33o0 [1, 2] [4, 11, 87]
abbrev f33o1 : List (Nat × Pop) := [
  (0, ⟨(some 5), .nilv 120 4, none⟩)]
abbrev f33r1 : Pc := .reg f33o1 [1, 2, 5] []
abbrev f33o2 : List (Nat × Pop) := [
  (0, ⟨(some 6), .nilv 123 2, none⟩)]
abbrev f33r2 : Pc := .reg f33o2 [1, 2, 5, 6] []
abbrev f33o3 : List (Nat × Pop) := [
  (0, ⟨(some 16), .mv (.tmp 1), none⟩),
  (1, ⟨(some 17), .lenL (.tmp 16), none⟩),
  (2, ⟨(some 18), .mv (.c (.t (.i .i64 0))), none⟩)]
abbrev f33r3 : Pc := .reg f33o3 [2, 5, 6, 16, 17, 18] []
abbrev f33o4 : List (Nat × Pop) := [
  (0, ⟨(some 19), .bin .lss (.tmp 18) (.tmp 17), none⟩)]
abbrev f33r4 : Pc := .reg f33o4 [2, 5, 6, 16, 17, 18, 19] []
abbrev f33o5 : List (Nat × Pop) := [
  (0, ⟨(some 20), .ixS 1 (.tmp 16) (.tmp 18), none⟩),
  (1, ⟨(some 21), .load false 1 (.tmp 20), none⟩),
  (2, ⟨(some 8), .mv (.tmp 21), none⟩)]
abbrev f33r5 : Pc := .reg f33o5 [2, 5, 6, 8, 16, 17, 18] []
abbrev f33o6 : List (Nat × Pop) := [
  (0, ⟨(some 23), .fad 0 (.tmp 2), none⟩),
  (1, ⟨(some 24), .load false 1 (.tmp 23), none⟩),
  (2, ⟨(some 25), .mv (.tmp 8), none⟩),
  (3, ⟨(some 26), .call 56 [(.tmp 24), (.tmp 25)], none⟩),
  (4, ⟨(some 22), .mv (.tmp 26), none⟩),
  (5, ⟨(some 27), .ext 0 (.tmp 22), none⟩),
  (6, ⟨(some 28), .ext 1 (.tmp 22), none⟩),
  (7, ⟨(some 9), .alloc 120 [(.t (.i .i64 0)), (.t (.i .i64 0)), (.t (.i .i64 0)), (.t (.i .i64 0))], none⟩),
  (8, ⟨none, .store 4 (.tmp 9) (.tmp 27), none⟩),
  (9, ⟨(some 10), .mv (.tmp 28), none⟩)]
abbrev f33r6 : Pc := .reg f33o6 [2, 5, 6, 9, 16, 17, 18] []
abbrev f33o7 : List (Nat × Pop) := [
  (0, ⟨(some 29), .mv (.tmp 5), none⟩),
  (1, ⟨(some 30), .load true 4 (.tmp 9), none⟩),
  (2, ⟨(some 31), .bslT 4 [(.tmp 30)], none⟩),
  (3, ⟨(some 32), .app 120 4 32 (.tmp 29) (.tmp 31), none⟩),
  (4, ⟨(some 5), .mv (.tmp 32), none⟩)]
abbrev f33r7 : Pc := .reg f33o7 [2, 5, 6, 9, 16, 17, 18] []
abbrev f33o8 : List (Nat × Pop) := [
  (0, ⟨(some 33), .mv (.tmp 6), none⟩),
  (1, ⟨(some 34), .fad 0 (.tmp 9), none⟩),
  (2, ⟨(some 35), .load false 1 (.tmp 34), none⟩),
  (3, ⟨(some 36), .fad 1 (.tmp 9), none⟩),
  (4, ⟨(some 37), .load false 1 (.tmp 36), none⟩),
  (5, ⟨(some 38), .build [(.t (.i .i64 0)), (.t (.i .i64 0))] [(0, 1, (.tmp 35)), (1, 1, (.tmp 37))], none⟩),
  (6, ⟨(some 39), .bslT 2 [(.tmp 38)], none⟩),
  (7, ⟨(some 40), .app 123 2 16 (.tmp 33) (.tmp 39), none⟩),
  (8, ⟨(some 6), .mv (.tmp 40), none⟩)]
abbrev f33r8 : Pc := .reg f33o8 [2, 5, 6, 16, 17, 18] [9]
abbrev f33o9 : List (Nat × Pop) := [
  (0, ⟨(some 41), .bin .add (.tmp 18) (.c (.t (.i .i64 1))), none⟩),
  (1, ⟨(some 18), .mv (.tmp 41), none⟩)]
abbrev f33r9 : Pc := .reg f33o9 [2, 5, 6, 16, 17, 18] []
def f33l0 : Pc := (.seq f33r4 (.seq (.cond (.tmp 19) .skip (.exit 0)) (.seq (.block 1 (.seq f33r5 (.seq f33r6 (.seq f33r7 f33r8)))) f33r9)))
theorem f33l0e (C : Cfg) (s : St) : evL C f33l0 s = evL C (.seq f33r4 (.seq (.cond (.tmp 19) .skip (.exit 0)) (.seq (.block 1 (.seq f33r5 (.seq f33r6 (.seq f33r7 f33r8)))) f33r9))) s := rfl
abbrev f33o10 : List (Nat × Pop) := [
  (0, ⟨(some 11), .nilv 93 4, none⟩)]
abbrev f33r10 : Pc := .reg f33o10 [2, 5, 6, 11] []
abbrev f33o11 : List (Nat × Pop) := [
  (0, ⟨(some 42), .mv (.tmp 6), none⟩),
  (1, ⟨(some 43), .fad 1 (.tmp 2), none⟩),
  (2, ⟨(some 44), .load false 1 (.tmp 43), none⟩),
  (3, ⟨(some 45), .lenL (.tmp 44), none⟩),
  (4, ⟨(some 46), .fad 2 (.tmp 2), none⟩),
  (5, ⟨(some 47), .load false 1 (.tmp 46), none⟩),
  (6, ⟨(some 48), .call 57 [(.tmp 42), (.tmp 45), (.tmp 47)], none⟩),
  (7, ⟨(some 49), .lenL (.tmp 48), none⟩),
  (8, ⟨(some 50), .mv (.c (.t (.i .i64 0))), none⟩)]
abbrev f33r11 : Pc := .reg f33o11 [5, 6, 11, 48, 49, 50] [2]
abbrev f33o12 : List (Nat × Pop) := [
  (0, ⟨(some 51), .bin .lss (.tmp 50) (.tmp 49), none⟩)]
abbrev f33r12 : Pc := .reg f33o12 [5, 6, 11, 48, 49, 50, 51] []
abbrev f33o13 : List (Nat × Pop) := [
  (0, ⟨(some 52), .mv (.tmp 50), none⟩),
  (1, ⟨(some 53), .ixS 2 (.tmp 48) (.tmp 50), none⟩),
  (2, ⟨(some 54), .load true 2 (.tmp 53), none⟩),
  (3, ⟨(some 13), .alloc 123 [(.t (.i .i64 0)), (.t (.i .i64 0))], none⟩),
  (4, ⟨(some 12), .mv (.tmp 52), none⟩),
  (5, ⟨none, .store 2 (.tmp 13) (.tmp 54), none⟩)]
abbrev f33r13 : Pc := .reg f33o13 [5, 6, 11, 12, 13, 48, 49, 50] []
abbrev f33o14 : List (Nat × Pop) := [
  (0, ⟨(some 55), .load true 2 (.tmp 13), none⟩),
  (1, ⟨(some 56), .mv (.c (.t (.i .i64 0))), none⟩)]
abbrev f33r14 : Pc := .reg f33o14 [5, 6, 11, 12, 48, 49, 50, 55, 56] [13]
abbrev f33o15 : List (Nat × Pop) := [
  (0, ⟨(some 57), .bin .lss (.tmp 56) (.c (.t (.i .i64 2))), none⟩)]
abbrev f33r15 : Pc := .reg f33o15 [5, 6, 11, 12, 48, 49, 50, 55, 56, 57] []
abbrev f33o16 : List (Nat × Pop) := [
  (0, ⟨(some 58), .mv (.tmp 56), none⟩),
  (1, ⟨(some 59), .ixV false 2 1 (.tmp 55) (.tmp 56), none⟩),
  (2, ⟨(some 14), .mv (.tmp 58), none⟩),
  (3, ⟨(some 15), .mv (.tmp 59), none⟩)]
abbrev f33r16 : Pc := .reg f33o16 [5, 6, 11, 12, 14, 15, 48, 49, 50, 55, 56] []
abbrev f33o17 : List (Nat × Pop) := [
  (0, ⟨(some 60), .mv (.tmp 15), none⟩),
  (1, ⟨(some 61), .bin .geq (.tmp 60) (.c (.t (.i .i64 0))), none⟩)]
abbrev f33r17 : Pc := .reg f33o17 [5, 6, 11, 12, 14, 48, 49, 50, 55, 56, 61] []
abbrev f33o18 : List (Nat × Pop) := [
  (0, ⟨(some 62), .mv (.tmp 11), none⟩),
  (1, ⟨(some 63), .mv (.tmp 12), none⟩),
  (2, ⟨(some 64), .mv (.tmp 14), none⟩),
  (3, ⟨(some 65), .mv (.tmp 6), none⟩),
  (4, ⟨(some 66), .mv (.tmp 12), none⟩),
  (5, ⟨(some 67), .mv (.tmp 14), none⟩),
  (6, ⟨(some 68), .ixS 2 (.tmp 65) (.tmp 66), none⟩),
  (7, ⟨(some 69), .ixA 2 1 (.tmp 68) (.tmp 67), none⟩),
  (8, ⟨(some 70), .load false 1 (.tmp 69), none⟩),
  (9, ⟨(some 71), .mv (.tmp 5), none⟩),
  (10, ⟨(some 72), .mv (.tmp 12), none⟩),
  (11, ⟨(some 73), .ixS 4 (.tmp 71) (.tmp 72), none⟩),
  (12, ⟨(some 74), .fad 2 (.tmp 73), none⟩),
  (13, ⟨(some 75), .load false 1 (.tmp 74), none⟩),
  (14, ⟨(some 76), .mv (.tmp 5), none⟩),
  (15, ⟨(some 77), .mv (.tmp 12), none⟩),
  (16, ⟨(some 78), .ixS 4 (.tmp 76) (.tmp 77), none⟩),
  (17, ⟨(some 79), .fad 3 (.tmp 78), none⟩),
  (18, ⟨(some 80), .load false 1 (.tmp 79), none⟩),
  (19, ⟨(some 81), .bslF 1 [(.tmp 75), (.tmp 80)], none⟩),
  (20, ⟨(some 82), .mv (.tmp 14), none⟩),
  (21, ⟨(some 83), .ixS 1 (.tmp 81) (.tmp 82), none⟩),
  (22, ⟨(some 84), .load false 1 (.tmp 83), none⟩),
  (23, ⟨(some 85), .build [(.t (.i .i64 0)), (.t (.i .i64 0)), (.t (.i .i64 0)), (.t (.i .i64 0))] [(0, 1, (.tmp 63)), (1, 1, (.tmp 64)), (2, 1, (.tmp 70)), (3, 1, (.tmp 84))], none⟩),
  (24, ⟨(some 86), .bslT 4 [(.tmp 85)], none⟩),
  (25, ⟨(some 87), .app 93 4 32 (.tmp 62) (.tmp 86), none⟩),
  (26, ⟨(some 11), .mv (.tmp 87), none⟩)]
abbrev f33r18 : Pc := .reg f33o18 [5, 6, 11, 12, 48, 49, 50, 55, 56] []
abbrev f33o19 : List (Nat × Pop) := [
  (0, ⟨(some 88), .bin .add (.tmp 56) (.c (.t (.i .i64 1))), none⟩),
  (1, ⟨(some 56), .mv (.tmp 88), none⟩)]
abbrev f33r19 : Pc := .reg f33o19 [5, 6, 11, 12, 48, 49, 50, 55, 56] []
def f33l1 : Pc := (.seq f33r15 (.seq (.cond (.tmp 57) .skip (.exit 4)) (.seq (.block 5 (.seq f33r16 (.seq f33r17 (.cond (.tmp 61) f33r18 .skip)))) f33r19)))
theorem f33l1e (C : Cfg) (s : St) : evL C f33l1 s = evL C (.seq f33r15 (.seq (.cond (.tmp 57) .skip (.exit 4)) (.seq (.block 5 (.seq f33r16 (.seq f33r17 (.cond (.tmp 61) f33r18 .skip)))) f33r19))) s := rfl
abbrev f33o20 : List (Nat × Pop) := [
  (0, ⟨(some 89), .bin .add (.tmp 50) (.c (.t (.i .i64 1))), none⟩),
  (1, ⟨(some 50), .mv (.tmp 89), none⟩)]
abbrev f33r20 : Pc := .reg f33o20 [5, 6, 11, 48, 49, 50] []
def f33l2 : Pc := (.seq f33r12 (.seq (.cond (.tmp 51) .skip (.exit 2)) (.seq (.block 3 (.seq f33r13 (.seq f33r14 (.block 4 (.loop f33l1))))) f33r20)))
theorem f33l2e (C : Cfg) (s : St) : evL C f33l2 s = evL C (.seq f33r12 (.seq (.cond (.tmp 51) .skip (.exit 2)) (.seq (.block 3 (.seq f33r13 (.seq f33r14 (.block 4 (.loop f33l1))))) f33r20))) s := rfl
abbrev f33o21 : List (Nat × Pop) := [
  (0, ⟨(some 90), .mv (.tmp 11), none⟩),
  (1, ⟨(some 4), .mv (.tmp 90), none⟩)]
abbrev f33r21 : Pc := .reg f33o21 [4] [5, 6, 32, 40]
abbrev f33b : Pc := (.seq f33r0 (.seq f33r1 (.seq f33r2 (.seq (.seq f33r3 (.block 0 (.loop f33l0))) (.seq f33r10 (.seq (.seq f33r11 (.block 2 (.loop f33l2))) (.seq f33r21 .ret)))))))
abbrev f33 : Pfn := ⟨2, 91, [.tmp 4], f33b⟩
def f33K : Array (List Nat) := #[[1, 2], [1, 2, 5], [1, 2, 5, 6], [2, 5, 6, 16, 17, 18], [2, 5, 6, 16, 17, 18, 19], [2, 5, 6, 8, 16, 17, 18], [2, 5, 6, 9, 16, 17, 18], [2, 5, 6, 9, 16, 17, 18], [2, 5, 6, 16, 17, 18], [2, 5, 6, 16, 17, 18], [2, 5, 6, 11], [5, 6, 11, 48, 49, 50], [5, 6, 11, 48, 49, 50, 51], [5, 6, 11, 12, 13, 48, 49, 50], [5, 6, 11, 12, 48, 49, 50, 55, 56], [5, 6, 11, 12, 48, 49, 50, 55, 56, 57], [5, 6, 11, 12, 14, 15, 48, 49, 50, 55, 56], [5, 6, 11, 12, 14, 48, 49, 50, 55, 56, 61], [5, 6, 11, 12, 48, 49, 50, 55, 56], [5, 6, 11, 12, 48, 49, 50, 55, 56], [5, 6, 11, 48, 49, 50], [4]]
def f33H : Array (List Nat) := #[[4, 11, 87], [], [], [], [], [], [], [], [9], [], [], [2], [], [], [13], [], [], [], [], [], [], [5, 6, 32, 40]]
def f33A : Ann := ⟨fun r => f33K.getD r [], fun r => f33H.getD r [], fun r i => ([] : List (Nat × Nat)).contains (r, i)⟩
theorem f33C : compF Go.Proofs.Tryz.prog f33A 33 = some f33 := by kernel_rfl

/-- switchboard/expert.Run -/
abbrev f34o0 : List (Nat × Pop) := [
  (0, ⟨(some 2), .box 24 2 (.tmp 0), none⟩),
  (1, ⟨(some 4), .nilv 3 1, none⟩),
  (2, ⟨(some 5), .mv (.c (.t (.b false))), none⟩)]
abbrev f34r0 : Pc := .reg f34o0 [1, 2] [4]
abbrev f34o1 : List (Nat × Pop) := [
  (0, ⟨(some 8), .load true 2 (.tmp 2), none⟩),
  (1, ⟨(some 9), .mv (.tmp 1), none⟩),
  (2, ⟨(some 10), .lenL (.tmp 9), none⟩),
  (3, ⟨(some 11), .call 17 [(.tmp 8), (.tmp 10)], none⟩),
  (4, ⟨(some 12), .un .not (.tmp 11), none⟩)]
abbrev f34r1 : Pc := .reg f34o1 [1, 2, 12] []
abbrev f34o2 : List (Nat × Pop) := [
  (0, ⟨(some 4), .nilv 3 1, none⟩),
  (1, ⟨(some 5), .mv (.c (.t (.b false))), none⟩)]
abbrev f34r2 : Pc := .reg f34o2 [4, 5] [2]
abbrev f34o3 : List (Nat × Pop) := [
  (0, ⟨(some 14), .fad 0 (.tmp 2), none⟩),
  (1, ⟨(some 15), .load false 1 (.tmp 14), none⟩),
  (2, ⟨(some 16), .mv (.tmp 1), none⟩),
  (3, ⟨(some 17), .call 58 [(.tmp 15), (.tmp 16)], none⟩),
  (4, ⟨(some 13), .mv (.tmp 17), none⟩),
  (5, ⟨(some 18), .ext 0 (.tmp 13), none⟩),
  (6, ⟨(some 19), .ext 1 (.tmp 13), none⟩),
  (7, ⟨(some 6), .mv (.tmp 18), none⟩),
  (8, ⟨(some 7), .mv (.tmp 19), none⟩)]
abbrev f34r3 : Pc := .reg f34o3 [2, 6] []
abbrev f34o4 : List (Nat × Pop) := [
  (0, ⟨(some 20), .fad 1 (.tmp 2), none⟩),
  (1, ⟨(some 21), .load false 1 (.tmp 20), none⟩),
  (2, ⟨(some 22), .mv (.tmp 6), none⟩),
  (3, ⟨(some 23), .callq 59 [(.tmp 22)], none⟩),
  (4, ⟨(some 24), .callq 58 [(.tmp 21), (.tmp 23)], none⟩),
  (5, ⟨(some 25), .ext 0 (.tmp 24), none⟩),
  (6, ⟨(some 26), .ext 1 (.tmp 24), none⟩),
  (7, ⟨(some 4), .mv (.tmp 25), none⟩),
  (8, ⟨(some 5), .mv (.tmp 26), none⟩)]
abbrev f34r4 : Pc := .reg f34o4 [4, 5] [2]
abbrev f34b : Pc := (.seq f34r0 (.seq (.seq f34r1 (.cond (.tmp 12) (.seq f34r2 .ret) .skip)) (.seq f34r3 (.seq f34r4 .ret))))
abbrev f34 : Pfn := ⟨2, 27, [.tmp 4, .tmp 5], f34b⟩
def f34K : Array (List Nat) := #[[1, 2], [1, 2, 12], [4, 5], [2, 6], [4, 5]]
def f34H : Array (List Nat) := #[[4], [], [2], [], [2]]
def f34A : Ann := ⟨fun r => f34K.getD r [], fun r => f34H.getD r [], fun r i => ([] : List (Nat × Nat)).contains (r, i)⟩
theorem f34C : compF Go.Proofs.Tryz.prog f34A 34 = some f34 := by kernel_rfl

/-- switchboard/model.Combine -/
abbrev f35o0 : List (Nat × Pop) := [
  (0, ⟨(some 6), .nilv 38 1, none⟩)]
abbrev f35r0 : Pc := .reg f35o0 [0, 1, 2] [6, 13]
abbrev f35o1 : List (Nat × Pop) := [
  (0, ⟨(some 12), .mv (.tmp 0), none⟩),
  (1, ⟨(some 13), .call 60 [(.tmp 12)], none⟩),
  (2, ⟨(some 7), .mv (.tmp 13), none⟩)]
abbrev f35r1 : Pc := .reg f35o1 [1, 2, 7] []
abbrev f35o2 : List (Nat × Pop) := [
  (0, ⟨(some 14), .mv (.tmp 1), none⟩),
  (1, ⟨(some 15), .lenL (.tmp 14), none⟩),
  (2, ⟨(some 16), .mv (.c (.t (.i .i64 0))), none⟩)]
abbrev f35r2 : Pc := .reg f35o2 [2, 7, 14, 15, 16] []
abbrev f35o3 : List (Nat × Pop) := [
  (0, ⟨(some 17), .bin .lss (.tmp 16) (.tmp 15), none⟩)]
abbrev f35r3 : Pc := .reg f35o3 [2, 7, 14, 15, 16, 17] []
abbrev f35o4 : List (Nat × Pop) := [
  (0, ⟨(some 18), .mv (.tmp 16), none⟩),
  (1, ⟨(some 19), .ixS 4 (.tmp 14) (.tmp 16), none⟩),
  (2, ⟨(some 20), .load true 4 (.tmp 19), none⟩),
  (3, ⟨(some 9), .alloc 93 [(.t (.i .i64 0)), (.t (.i .i64 0)), (.t (.i .i64 0)), (.t (.i .i64 0))], none⟩),
  (4, ⟨(some 8), .mv (.tmp 18), none⟩),
  (5, ⟨none, .store 4 (.tmp 9) (.tmp 20), none⟩)]
abbrev f35r4 : Pc := .reg f35o4 [2, 7, 8, 9, 14, 15, 16] []
abbrev f35o5 : List (Nat × Pop) := [
  (0, ⟨(some 21), .mv (.tmp 8), none⟩),
  (1, ⟨(some 22), .mv (.tmp 2), none⟩),
  (2, ⟨(some 23), .lenL (.tmp 22), none⟩),
  (3, ⟨(some 24), .bin .geq (.tmp 21) (.tmp 23), none⟩),
  (4, ⟨(some 25), .mv (.tmp 24), none⟩),
  (5, ⟨(some 26), .fad 0 (.tmp 9), (some (25, false))⟩),
  (6, ⟨(some 27), .load false 1 (.tmp 26), (some (25, false))⟩),
  (7, ⟨(some 28), .bin .lss (.tmp 27) (.c (.t (.i .i64 0))), (some (25, false))⟩),
  (8, ⟨(some 29), .pick (.tmp 25) (.c (.t (.b true))) (.tmp 28), none⟩),
  (9, ⟨(some 30), .mv (.tmp 29), none⟩),
  (10, ⟨(some 31), .fad 0 (.tmp 9), (some (30, false))⟩),
  (11, ⟨(some 32), .load false 1 (.tmp 31), (some (30, false))⟩),
  (12, ⟨(some 33), .mv (.tmp 7), (some (30, false))⟩),
  (13, ⟨(some 34), .lenL (.tmp 33), (some (30, false))⟩),
  (14, ⟨(some 35), .bin .geq (.tmp 32) (.tmp 34), (some (30, false))⟩),
  (15, ⟨(some 36), .pick (.tmp 30) (.c (.t (.b true))) (.tmp 35), none⟩)]
abbrev f35r5 : Pc := .reg f35o5 [2, 7, 8, 9, 14, 15, 16, 36] []
abbrev f35o6 : List (Nat × Pop) := [
  (0, ⟨(some 38), .mv (.tmp 7), none⟩),
  (1, ⟨(some 39), .fad 0 (.tmp 9), none⟩),
  (2, ⟨(some 40), .load false 1 (.tmp 39), none⟩),
  (3, ⟨(some 41), .ixS 1 (.tmp 38) (.tmp 40), none⟩),
  (4, ⟨(some 42), .load false 1 (.tmp 41), none⟩),
  (5, ⟨(some 43), .mv (.tmp 2), none⟩),
  (6, ⟨(some 44), .mv (.tmp 8), none⟩),
  (7, ⟨(some 45), .ixS 1 (.tmp 43) (.tmp 44), none⟩),
  (8, ⟨(some 46), .load false 1 (.tmp 45), none⟩),
  (9, ⟨(some 47), .fad 3 (.tmp 9), none⟩),
  (10, ⟨(some 48), .load false 1 (.tmp 47), none⟩),
  (11, ⟨(some 49), .callq 62 [(.tmp 46), (.tmp 48)], none⟩),
  (12, ⟨(some 50), .callq 61 [(.tmp 42), (.tmp 49)], none⟩),
  (13, ⟨(some 37), .mv (.tmp 50), none⟩),
  (14, ⟨(some 51), .ext 0 (.tmp 37), none⟩),
  (15, ⟨(some 52), .ext 1 (.tmp 37), none⟩),
  (16, ⟨(some 10), .mv (.tmp 51), none⟩),
  (17, ⟨(some 11), .mv (.tmp 52), none⟩)]
abbrev f35r6 : Pc := .reg f35o6 [2, 7, 9, 10, 11, 14, 15, 16] []
abbrev f35o7 : List (Nat × Pop) := [
  (0, ⟨(some 53), .mv (.tmp 11), none⟩)]
abbrev f35r7 : Pc := .reg f35o7 [2, 7, 9, 10, 14, 15, 16, 53] []
abbrev f35o8 : List (Nat × Pop) := [
  (0, ⟨(some 54), .mv (.tmp 7), none⟩),
  (1, ⟨(some 55), .fad 0 (.tmp 9), none⟩),
  (2, ⟨(some 56), .load false 1 (.tmp 55), none⟩),
  (3, ⟨(some 57), .mv (.tmp 10), none⟩),
  (4, ⟨(some 58), .ixS 1 (.tmp 54) (.tmp 56), none⟩),
  (5, ⟨none, .store 1 (.tmp 58) (.tmp 57), none⟩)]
abbrev f35r8 : Pc := .reg f35o8 [2, 7, 14, 15, 16] [9]
abbrev f35o9 : List (Nat × Pop) := [
  (0, ⟨(some 59), .bin .add (.tmp 16) (.c (.t (.i .i64 1))), none⟩),
  (1, ⟨(some 16), .mv (.tmp 59), none⟩)]
abbrev f35r9 : Pc := .reg f35o9 [2, 7, 14, 15, 16] [9]
def f35l0 : Pc := (.seq f35r3 (.seq (.cond (.tmp 17) .skip (.exit 0)) (.seq (.block 1 (.seq f35r4 (.seq (.seq f35r5 (.cond (.tmp 36) (.exit 1) .skip)) (.seq f35r6 (.seq f35r7 (.cond (.tmp 53) f35r8 .skip)))))) f35r9)))
theorem f35l0e (C : Cfg) (s : St) : evL C f35l0 s = evL C (.seq f35r3 (.seq (.cond (.tmp 17) .skip (.exit 0)) (.seq (.block 1 (.seq f35r4 (.seq (.seq f35r5 (.cond (.tmp 36) (.exit 1) .skip)) (.seq f35r6 (.seq f35r7 (.cond (.tmp 53) f35r8 .skip)))))) f35r9))) s := rfl
abbrev f35o10 : List (Nat × Pop) := [
  (0, ⟨(some 60), .mv (.tmp 7), none⟩),
  (1, ⟨(some 6), .mv (.tmp 60), none⟩)]
abbrev f35r10 : Pc := .reg f35o10 [6] []
abbrev f35b : Pc := (.seq f35r0 (.seq f35r1 (.seq (.seq f35r2 (.block 0 (.loop f35l0))) (.seq f35r10 .ret))))
abbrev f35 : Pfn := ⟨3, 61, [.tmp 6], f35b⟩
def f35K : Array (List Nat) := #[[0, 1, 2], [1, 2, 7], [2, 7, 14, 15, 16], [2, 7, 14, 15, 16, 17], [2, 7, 8, 9, 14, 15, 16], [2, 7, 8, 9, 14, 15, 16, 36], [2, 7, 9, 10, 11, 14, 15, 16], [2, 7, 9, 10, 14, 15, 16, 53], [2, 7, 14, 15, 16], [2, 7, 14, 15, 16], [6]]
def f35H : Array (List Nat) := #[[6, 13], [], [], [], [], [], [], [], [9], [9], []]
def f35A : Ann := ⟨fun r => f35K.getD r [], fun r => f35H.getD r [], fun r i => ([] : List (Nat × Nat)).contains (r, i)⟩
theorem f35C : compF Go.Proofs.Tryz.prog f35A 35 = some f35 := by kernel_rfl

/-- switchboard/mat.Right -/
abbrev f36o0 : List (Nat × Pop) := [
  (0, ⟨(some 5), .box 3 1 (.tmp 2), none⟩),
  (1, ⟨(some 6), .mv (.c (.t (.b false))), none⟩)]
abbrev f36r0 : Pc := .reg f36o0 [0, 1, 5] []
abbrev f36o1 : List (Nat × Pop) := [
  (0, ⟨(some 7), .mv (.tmp 0), none⟩),
  (1, ⟨(some 8), .lenL (.tmp 7), none⟩),
  (2, ⟨(some 9), .mv (.tmp 1), none⟩),
  (3, ⟨(some 10), .bin .eql (.tmp 8) (.tmp 9), none⟩),
  (4, ⟨(some 11), .mv (.tmp 10), none⟩),
  (5, ⟨(some 12), .mv (.tmp 0), (some (11, true))⟩),
  (6, ⟨(some 13), .mkfn 63 [(.tmp 5)], (some (11, true))⟩),
  (7, ⟨(some 14), .call 51 [(.tmp 12), (.tmp 13)], (some (11, true))⟩),
  (8, ⟨(some 15), .un .not (.tmp 14), (some (11, true))⟩),
  (9, ⟨(some 16), .pick (.tmp 11) (.tmp 15) (.c (.t (.b false))), none⟩),
  (10, ⟨(some 6), .mv (.tmp 16), none⟩)]
abbrev f36r1 : Pc := .reg f36o1 [6] [5]
abbrev f36b : Pc := (.seq f36r0 (.seq f36r1 .ret))
abbrev f36 : Pfn := ⟨3, 17, [.tmp 6], f36b⟩
def f36K : Array (List Nat) := #[[0, 1, 5], [6]]
def f36H : Array (List Nat) := #[[], [5]]
def f36A : Ann := ⟨fun r => f36K.getD r [], fun r => f36H.getD r [], fun r i => ([] : List (Nat × Nat)).contains (r, i)⟩
theorem f36C : compF Go.Proofs.Tryz.prog f36A 36 = some f36 := by kernel_rfl

/-- switchboard/link.Right -/
abbrev f38o0 : List (Nat × Pop) := [
  (0, ⟨(some 1), .box 37 2 (.tmp 0), none⟩),
  (1, ⟨(some 2), .mv (.c (.t (.b false))), none⟩)]
abbrev f38r0 : Pc := .reg f38o0 [1] []
abbrev f38o1 : List (Nat × Pop) := [
  (0, ⟨(some 3), .mv (.c (.t (.i .i64 (-1)))), none⟩)]
abbrev f38r1 : Pc := .reg f38o1 [1, 3] []
abbrev f38o2 : List (Nat × Pop) := [
  (0, ⟨(some 6), .fad 1 (.tmp 1), none⟩),
  (1, ⟨(some 7), .load false 1 (.tmp 6), none⟩),
  (2, ⟨(some 8), .lenL (.tmp 7), none⟩),
  (3, ⟨(some 9), .mv (.c (.t (.i .i64 0))), none⟩)]
abbrev f38r2 : Pc := .reg f38o2 [1, 3, 7, 8, 9] []
abbrev f38o3 : List (Nat × Pop) := [
  (0, ⟨(some 10), .bin .lss (.tmp 9) (.tmp 8), none⟩)]
abbrev f38r3 : Pc := .reg f38o3 [1, 3, 7, 8, 9, 10] []
abbrev f38o4 : List (Nat × Pop) := [
  (0, ⟨(some 11), .ixS 2 (.tmp 7) (.tmp 9), none⟩),
  (1, ⟨(some 12), .load true 2 (.tmp 11), none⟩),
  (2, ⟨(some 5), .alloc 77 [(.t (.i .i64 0)), (.t (.s []))], none⟩),
  (3, ⟨none, .store 2 (.tmp 5) (.tmp 12), none⟩)]
abbrev f38r4 : Pc := .reg f38o4 [1, 3, 5, 7, 8, 9] []
abbrev f38o5 : List (Nat × Pop) := [
  (0, ⟨(some 13), .fad 0 (.tmp 5), none⟩),
  (1, ⟨(some 14), .load false 1 (.tmp 13), none⟩),
  (2, ⟨(some 15), .mv (.tmp 3), none⟩),
  (3, ⟨(some 16), .bin .leq (.tmp 14) (.tmp 15), none⟩),
  (4, ⟨(some 17), .mv (.tmp 16), none⟩),
  (5, ⟨(some 18), .fad 0 (.tmp 5), (some (17, false))⟩),
  (6, ⟨(some 19), .load false 1 (.tmp 18), (some (17, false))⟩),
  (7, ⟨(some 20), .fad 0 (.tmp 1), (some (17, false))⟩),
  (8, ⟨(some 21), .load false 1 (.tmp 20), (some (17, false))⟩),
  (9, ⟨(some 22), .bin .geq (.tmp 19) (.tmp 21), (some (17, false))⟩),
  (10, ⟨(some 23), .pick (.tmp 17) (.c (.t (.b true))) (.tmp 22), none⟩)]
abbrev f38r5 : Pc := .reg f38o5 [1, 5, 7, 8, 9, 23] []
abbrev f38o6 : List (Nat × Pop) := [
  (0, ⟨(some 2), .mv (.c (.t (.b false))), none⟩)]
abbrev f38r6 : Pc := .reg f38o6 [2] [1, 5]
abbrev f38o7 : List (Nat × Pop) := [
  (0, ⟨(some 24), .fad 0 (.tmp 5), none⟩),
  (1, ⟨(some 25), .load false 1 (.tmp 24), none⟩),
  (2, ⟨(some 3), .mv (.tmp 25), none⟩)]
abbrev f38r7 : Pc := .reg f38o7 [1, 3, 7, 8, 9] [5]
abbrev f38o8 : List (Nat × Pop) := [
  (0, ⟨(some 26), .bin .add (.tmp 9) (.c (.t (.i .i64 1))), none⟩),
  (1, ⟨(some 9), .mv (.tmp 26), none⟩)]
abbrev f38r8 : Pc := .reg f38o8 [1, 3, 7, 8, 9] []
def f38l0 : Pc := (.seq f38r3 (.seq (.cond (.tmp 10) .skip (.exit 0)) (.seq (.block 1 (.seq f38r4 (.seq (.seq f38r5 (.cond (.tmp 23) (.seq f38r6 .ret) .skip)) f38r7))) f38r8)))
theorem f38l0e (C : Cfg) (s : St) : evL C f38l0 s = evL C (.seq f38r3 (.seq (.cond (.tmp 10) .skip (.exit 0)) (.seq (.block 1 (.seq f38r4 (.seq (.seq f38r5 (.cond (.tmp 23) (.seq f38r6 .ret) .skip)) f38r7))) f38r8))) s := rfl
abbrev f38o9 : List (Nat × Pop) := [
  (0, ⟨(some 27), .fad 0 (.tmp 1), none⟩),
  (1, ⟨(some 28), .load false 1 (.tmp 27), none⟩),
  (2, ⟨(some 29), .bin .geq (.tmp 28) (.c (.t (.i .i64 0))), none⟩),
  (3, ⟨(some 30), .mv (.tmp 29), none⟩),
  (4, ⟨(some 31), .fad 0 (.tmp 1), (some (30, true))⟩),
  (5, ⟨(some 32), .load false 1 (.tmp 31), (some (30, true))⟩),
  (6, ⟨(some 33), .bin .leq (.tmp 32) (.c (.t (.i .i64 2147483647))), (some (30, true))⟩),
  (7, ⟨(some 34), .pick (.tmp 30) (.tmp 33) (.c (.t (.b false))), none⟩),
  (8, ⟨(some 35), .mv (.tmp 34), none⟩),
  (9, ⟨(some 36), .fad 1 (.tmp 1), (some (35, true))⟩),
  (10, ⟨(some 37), .load false 1 (.tmp 36), (some (35, true))⟩),
  (11, ⟨(some 38), .lenL (.tmp 37), (some (35, true))⟩),
  (12, ⟨(some 39), .bin .leq (.tmp 38) (.c (.t (.i .i64 64))), (some (35, true))⟩),
  (13, ⟨(some 40), .pick (.tmp 35) (.tmp 39) (.c (.t (.b false))), none⟩),
  (14, ⟨(some 2), .mv (.tmp 40), none⟩)]
abbrev f38r9 : Pc := .reg f38o9 [2] [1]
abbrev f38b : Pc := (.seq f38r0 (.seq f38r1 (.seq (.seq f38r2 (.block 0 (.loop f38l0))) (.seq f38r9 .ret))))
abbrev f38 : Pfn := ⟨1, 41, [.tmp 2], f38b⟩
def f38K : Array (List Nat) := #[[1], [1, 3], [1, 3, 7, 8, 9], [1, 3, 7, 8, 9, 10], [1, 3, 5, 7, 8, 9], [1, 5, 7, 8, 9, 23], [2], [1, 3, 7, 8, 9], [1, 3, 7, 8, 9], [2]]
def f38H : Array (List Nat) := #[[], [], [], [], [], [], [1, 5], [5], [], [1]]
def f38A : Ann := ⟨fun r => f38K.getD r [], fun r => f38H.getD r [], fun r i => ([] : List (Nat × Nat)).contains (r, i)⟩
theorem f38C : compF Go.Proofs.Tryz.prog f38A 38 = some f38 := by kernel_rfl

/-- slices.Clone[[]switchboard/link.Frame,switchboard/link.Frame] -/
abbrev f39o0 : List (Nat × Pop) := [
  (0, ⟨(some 2), .nilv 77 2, none⟩)]
abbrev f39r0 : Pc := .reg f39o0 [0] [2, 5, 7]
abbrev f39o1 : List (Nat × Pop) := [
  (0, ⟨(some 3), .mv (.tmp 0), none⟩),
  (1, ⟨(some 4), .isnilS false (.tmp 3), none⟩)]
abbrev f39r1 : Pc := .reg f39o1 [0, 4] []
abbrev f39o2 : List (Nat × Pop) := [
  (0, ⟨(some 2), .nilv 77 2, none⟩)]
abbrev f39r2 : Pc := .reg f39o2 [2] []
abbrev f39o3 : List (Nat × Pop) := [
  (0, ⟨(some 5), .bslO 77 2 [], none⟩),
  (1, ⟨(some 6), .mv (.tmp 0), none⟩),
  (2, ⟨(some 7), .app 77 2 24 (.tmp 5) (.tmp 6), none⟩),
  (3, ⟨(some 2), .mv (.tmp 7), none⟩)]
abbrev f39r3 : Pc := .reg f39o3 [2] []
abbrev f39b : Pc := (.seq f39r0 (.seq (.seq f39r1 (.cond (.tmp 4) (.seq f39r2 .ret) .skip)) (.seq f39r3 .ret)))
abbrev f39 : Pfn := ⟨1, 8, [.tmp 2], f39b⟩
def f39K : Array (List Nat) := #[[0], [0, 4], [2], [2]]
def f39H : Array (List Nat) := #[[2, 5, 7], [], [], []]
def f39A : Ann := ⟨fun r => f39K.getD r [], fun r => f39H.getD r [], fun r i => ([(3, 0), (3, 0)] : List (Nat × Nat)).contains (r, i)⟩
theorem f39C : compF Go.Proofs.Tryz.prog f39A 39 = some f39 := by kernel_rfl

/-- switchboard/port.four -/
abbrev f40o0 : List (Nat × Pop) := [
  (0, ⟨(some 2), .mv (.c (.t (.s []))), none⟩)]
abbrev f40r0 : Pc := .reg f40o0 [0] []
abbrev f40o1 : List (Nat × Pop) := [
  (0, ⟨(some 3), .mv (.tmp 0), none⟩),
  (1, ⟨(some 4), .cvi .u8 (.tmp 3), none⟩),
  (2, ⟨(some 5), .mv (.tmp 0), none⟩),
  (3, ⟨(some 6), .bin .shr (.tmp 5) (.c (.t (.i .u64 8))), none⟩),
  (4, ⟨(some 7), .cvi .u8 (.tmp 6), none⟩),
  (5, ⟨(some 8), .mv (.tmp 0), none⟩),
  (6, ⟨(some 9), .bin .shr (.tmp 8) (.c (.t (.i .u64 16))), none⟩),
  (7, ⟨(some 10), .cvi .u8 (.tmp 9), none⟩),
  (8, ⟨(some 11), .mv (.tmp 0), none⟩),
  (9, ⟨(some 12), .bin .shr (.tmp 11) (.c (.t (.i .u64 24))), none⟩),
  (10, ⟨(some 13), .cvi .u8 (.tmp 12), none⟩),
  (11, ⟨(some 14), .bslT 1 [(.tmp 4), (.tmp 7), (.tmp 10), (.tmp 13)], none⟩),
  (12, ⟨(some 15), .cvbs (.tmp 14), none⟩),
  (13, ⟨(some 2), .mv (.tmp 15), none⟩)]
abbrev f40r1 : Pc := .reg f40o1 [2] []
abbrev f40b : Pc := (.seq f40r0 (.seq f40r1 .ret))
abbrev f40 : Pfn := ⟨1, 16, [.tmp 2], f40b⟩
def f40K : Array (List Nat) := #[[0], [2]]
def f40H : Array (List Nat) := #[[], []]
def f40A : Ann := ⟨fun r => f40K.getD r [], fun r => f40H.getD r [], fun r i => ([] : List (Nat × Nat)).contains (r, i)⟩
theorem f40C : compF Go.Proofs.Tryz.prog f40A 40 = some f40 := by kernel_rfl

/-- slices.DeleteFunc[[]switchboard/link.Frame,switchboard/link.Frame] -/
abbrev f41o0 : List (Nat × Pop) := [
  (0, ⟨(some 4), .nilv 77 2, none⟩)]
abbrev f41r0 : Pc := .reg f41o0 [0, 1] []
abbrev f41o1 : List (Nat × Pop) := [
  (0, ⟨(some 8), .mv (.tmp 0), none⟩),
  (1, ⟨(some 9), .mv (.tmp 1), none⟩),
  (2, ⟨(some 10), .call 66 [(.tmp 8), (.tmp 9)], none⟩),
  (3, ⟨(some 5), .mv (.tmp 10), none⟩)]
abbrev f41r1 : Pc := .reg f41o1 [0, 1, 5] []
abbrev f41o2 : List (Nat × Pop) := [
  (0, ⟨(some 11), .mv (.tmp 5), none⟩),
  (1, ⟨(some 12), .bin .eql (.tmp 11) (.c (.t (.i .i64 (-1)))), none⟩)]
abbrev f41r2 : Pc := .reg f41o2 [0, 1, 5, 12] []
abbrev f41o3 : List (Nat × Pop) := [
  (0, ⟨(some 13), .mv (.tmp 0), none⟩),
  (1, ⟨(some 4), .mv (.tmp 13), none⟩)]
abbrev f41r3 : Pc := .reg f41o3 [4] []
abbrev f41o4 : List (Nat × Pop) := [
  (0, ⟨(some 14), .mv (.tmp 5), none⟩),
  (1, ⟨(some 15), .bin .add (.tmp 14) (.c (.t (.i .i64 1))), none⟩),
  (2, ⟨(some 6), .mv (.tmp 15), none⟩)]
abbrev f41r4 : Pc := .reg f41o4 [0, 1, 5, 6] []
abbrev f41o5 : List (Nat × Pop) := [
  (0, ⟨(some 16), .mv (.tmp 6), none⟩),
  (1, ⟨(some 17), .mv (.tmp 0), none⟩),
  (2, ⟨(some 18), .lenL (.tmp 17), none⟩),
  (3, ⟨(some 19), .bin .lss (.tmp 16) (.tmp 18), none⟩)]
abbrev f41r5 : Pc := .reg f41o5 [0, 1, 5, 6, 19] []
abbrev f41o7 : List (Nat × Pop) := [
  (0, ⟨(some 22), .mv (.tmp 0), none⟩),
  (1, ⟨(some 23), .mv (.tmp 6), none⟩),
  (2, ⟨(some 24), .ixS 2 (.tmp 22) (.tmp 23), none⟩),
  (3, ⟨(some 25), .load true 2 (.tmp 24), none⟩),
  (4, ⟨(some 7), .alloc 77 [(.t (.i .i64 0)), (.t (.s []))], none⟩),
  (5, ⟨none, .store 2 (.tmp 7) (.tmp 25), none⟩)]
abbrev f41r7 : Pc := .reg f41o7 [0, 1, 5, 6, 7] []
abbrev f41o8 : List (Nat × Pop) := [
  (0, ⟨(some 26), .mv (.tmp 1), none⟩),
  (1, ⟨(some 27), .load true 2 (.tmp 7), none⟩),
  (2, ⟨(some 28), .callv (.tmp 26) [(.tmp 27)], none⟩),
  (3, ⟨(some 29), .un .not (.tmp 28), none⟩)]
abbrev f41r8 : Pc := .reg f41o8 [0, 1, 5, 6, 7, 29] []
abbrev f41o9 : List (Nat × Pop) := [
  (0, ⟨(some 30), .mv (.tmp 0), none⟩),
  (1, ⟨(some 31), .mv (.tmp 5), none⟩),
  (2, ⟨(some 32), .load true 2 (.tmp 7), none⟩),
  (3, ⟨(some 33), .ixS 2 (.tmp 30) (.tmp 31), none⟩),
  (4, ⟨none, .store 2 (.tmp 33) (.tmp 32), none⟩)]
abbrev f41r9 : Pc := .reg f41o9 [0, 1, 5, 6] []
abbrev f41o10 : List (Nat × Pop) := [
  (0, ⟨(some 34), .mv (.tmp 5), none⟩),
  (1, ⟨(some 35), .bin .add (.tmp 34) (.c (.t (.i .i64 1))), none⟩),
  (2, ⟨(some 5), .mv (.tmp 35), none⟩)]
abbrev f41r10 : Pc := .reg f41o10 [0, 1, 5, 6] []
abbrev f41o6 : List (Nat × Pop) := [
  (0, ⟨(some 20), .mv (.tmp 6), none⟩),
  (1, ⟨(some 21), .bin .add (.tmp 20) (.c (.t (.i .i64 1))), none⟩),
  (2, ⟨(some 6), .mv (.tmp 21), none⟩)]
abbrev f41r6 : Pc := .reg f41o6 [0, 1, 5, 6] []
def f41l0 : Pc := (.seq (.seq f41r5 (.cond (.tmp 19) .skip (.exit 0))) (.seq (.block 1 (.seq f41r7 (.seq f41r8 (.cond (.tmp 29) (.seq f41r9 f41r10) .skip)))) f41r6))
theorem f41l0e (C : Cfg) (s : St) : evL C f41l0 s = evL C (.seq (.seq f41r5 (.cond (.tmp 19) .skip (.exit 0))) (.seq (.block 1 (.seq f41r7 (.seq f41r8 (.cond (.tmp 29) (.seq f41r9 f41r10) .skip)))) f41r6)) s := rfl
abbrev f41o11 : List (Nat × Pop) := [
  (0, ⟨(some 36), .mv (.tmp 0), none⟩),
  (1, ⟨(some 37), .mv (.tmp 5), none⟩),
  (2, ⟨(some 38), .sls 2 (.tmp 36) (some (.tmp 37)) none, none⟩),
  (3, ⟨none, .clr 2 (.tmp 38), none⟩)]
abbrev f41r11 : Pc := .reg f41o11 [0, 5] []
abbrev f41o12 : List (Nat × Pop) := [
  (0, ⟨(some 39), .mv (.tmp 0), none⟩),
  (1, ⟨(some 40), .mv (.tmp 5), none⟩),
  (2, ⟨(some 41), .sls 2 (.tmp 39) none (some (.tmp 40)), none⟩),
  (3, ⟨(some 4), .mv (.tmp 41), none⟩)]
abbrev f41r12 : Pc := .reg f41o12 [4] []
abbrev f41b : Pc := (.seq f41r0 (.seq f41r1 (.seq (.seq f41r2 (.cond (.tmp 12) (.seq f41r3 .ret) .skip)) (.seq (.seq f41r4 (.block 0 (.loop f41l0))) (.seq f41r11 (.seq f41r12 .ret))))))
abbrev f41 : Pfn := ⟨2, 42, [.tmp 4], f41b⟩
def f41K : Array (List Nat) := #[[0, 1], [0, 1, 5], [0, 1, 5, 12], [4], [0, 1, 5, 6], [0, 1, 5, 6, 19], [0, 1, 5, 6], [0, 1, 5, 6, 7], [0, 1, 5, 6, 7, 29], [0, 1, 5, 6], [0, 1, 5, 6], [0, 5], [4]]
def f41H : Array (List Nat) := #[[], [], [], [], [], [], [], [], [], [], [], [], []]
def f41A : Ann := ⟨fun r => f41K.getD r [], fun r => f41H.getD r [], fun r i => ([] : List (Nat × Nat)).contains (r, i)⟩
theorem f41C : compF Go.Proofs.Tryz.prog f41A 41 = some f41 := by kernel_rfl

/-- switchboard/link.Told$1 -/
abbrev f42o0 : List (Nat × Pop) := [
  (0, ⟨(some 2), .box 77 2 (.tmp 0), none⟩),
  (1, ⟨(some 3), .mv (.c (.t (.b false))), none⟩)]
abbrev f42r0 : Pc := .reg f42o0 [1, 2] []
abbrev f42o1 : List (Nat × Pop) := [
  (0, ⟨(some 4), .fad 0 (.tmp 2), none⟩),
  (1, ⟨(some 5), .load false 1 (.tmp 4), none⟩),
  (2, ⟨(some 6), .load false 1 (.tmp 1), none⟩),
  (3, ⟨(some 7), .bin .eql (.tmp 5) (.tmp 6), none⟩),
  (4, ⟨(some 3), .mv (.tmp 7), none⟩)]
abbrev f42r1 : Pc := .reg f42o1 [3] []
abbrev f42b : Pc := (.seq f42r0 (.seq f42r1 .ret))
abbrev f42 : Pfn := ⟨2, 8, [.tmp 3], f42b⟩
def f42K : Array (List Nat) := #[[1, 2], [3]]
def f42H : Array (List Nat) := #[[], []]
def f42A : Ann := ⟨fun r => f42K.getD r [], fun r => f42H.getD r [], fun r i => ([] : List (Nat × Nat)).contains (r, i)⟩
theorem f42C : compF Go.Proofs.Tryz.prog f42A 42 = some f42 := by kernel_rfl

/-- switchboard/window.Right -/
abbrev f43o0 : List (Nat × Pop) := [
  (0, ⟨(some 1), .box 40 2 (.tmp 0), none⟩),
  (1, ⟨(some 2), .mv (.c (.t (.b false))), none⟩)]
abbrev f43r0 : Pc := .reg f43o0 [1] []
abbrev f43o1 : List (Nat × Pop) := [
  (0, ⟨(some 6), .fad 0 (.tmp 1), none⟩),
  (1, ⟨(some 7), .load false 1 (.tmp 6), none⟩),
  (2, ⟨(some 8), .bin .sub (.tmp 7) (.c (.t (.i .i64 1))), none⟩),
  (3, ⟨(some 3), .mv (.tmp 8), none⟩)]
abbrev f43r1 : Pc := .reg f43o1 [1, 3] []
abbrev f43o2 : List (Nat × Pop) := [
  (0, ⟨(some 9), .fad 1 (.tmp 1), none⟩),
  (1, ⟨(some 10), .load false 1 (.tmp 9), none⟩),
  (2, ⟨(some 11), .lenL (.tmp 10), none⟩),
  (3, ⟨(some 12), .mv (.c (.t (.i .i64 0))), none⟩)]
abbrev f43r2 : Pc := .reg f43o2 [1, 3, 10, 11, 12] []
abbrev f43o3 : List (Nat × Pop) := [
  (0, ⟨(some 13), .bin .lss (.tmp 12) (.tmp 11), none⟩)]
abbrev f43r3 : Pc := .reg f43o3 [1, 3, 10, 11, 12, 13] []
abbrev f43o4 : List (Nat × Pop) := [
  (0, ⟨(some 14), .ixS 1 (.tmp 10) (.tmp 12), none⟩),
  (1, ⟨(some 15), .load false 1 (.tmp 14), none⟩),
  (2, ⟨(some 5), .mv (.tmp 15), none⟩)]
abbrev f43r4 : Pc := .reg f43o4 [1, 3, 5, 10, 11, 12] []
abbrev f43o5 : List (Nat × Pop) := [
  (0, ⟨(some 16), .mv (.tmp 5), none⟩),
  (1, ⟨(some 17), .mv (.tmp 3), none⟩),
  (2, ⟨(some 18), .bin .leq (.tmp 16) (.tmp 17), none⟩),
  (3, ⟨(some 19), .mv (.tmp 18), none⟩),
  (4, ⟨(some 20), .mv (.tmp 5), (some (19, false))⟩),
  (5, ⟨(some 21), .bin .gtr (.tmp 20) (.c (.t (.i .i64 2147483647))), (some (19, false))⟩),
  (6, ⟨(some 22), .pick (.tmp 19) (.c (.t (.b true))) (.tmp 21), none⟩)]
abbrev f43r5 : Pc := .reg f43o5 [1, 5, 10, 11, 12, 22] []
abbrev f43o6 : List (Nat × Pop) := [
  (0, ⟨(some 2), .mv (.c (.t (.b false))), none⟩)]
abbrev f43r6 : Pc := .reg f43o6 [2] [1]
abbrev f43o7 : List (Nat × Pop) := [
  (0, ⟨(some 23), .mv (.tmp 5), none⟩),
  (1, ⟨(some 3), .mv (.tmp 23), none⟩)]
abbrev f43r7 : Pc := .reg f43o7 [1, 3, 10, 11, 12] []
abbrev f43o8 : List (Nat × Pop) := [
  (0, ⟨(some 24), .bin .add (.tmp 12) (.c (.t (.i .i64 1))), none⟩),
  (1, ⟨(some 12), .mv (.tmp 24), none⟩)]
abbrev f43r8 : Pc := .reg f43o8 [1, 3, 10, 11, 12] []
def f43l0 : Pc := (.seq f43r3 (.seq (.cond (.tmp 13) .skip (.exit 0)) (.seq (.block 1 (.seq f43r4 (.seq (.seq f43r5 (.cond (.tmp 22) (.seq f43r6 .ret) .skip)) f43r7))) f43r8)))
theorem f43l0e (C : Cfg) (s : St) : evL C f43l0 s = evL C (.seq f43r3 (.seq (.cond (.tmp 13) .skip (.exit 0)) (.seq (.block 1 (.seq f43r4 (.seq (.seq f43r5 (.cond (.tmp 22) (.seq f43r6 .ret) .skip)) f43r7))) f43r8))) s := rfl
abbrev f43o9 : List (Nat × Pop) := [
  (0, ⟨(some 25), .fad 0 (.tmp 1), none⟩),
  (1, ⟨(some 26), .load false 1 (.tmp 25), none⟩),
  (2, ⟨(some 27), .bin .geq (.tmp 26) (.c (.t (.i .i64 0))), none⟩),
  (3, ⟨(some 28), .mv (.tmp 27), none⟩),
  (4, ⟨(some 29), .fad 0 (.tmp 1), (some (28, true))⟩),
  (5, ⟨(some 30), .load false 1 (.tmp 29), (some (28, true))⟩),
  (6, ⟨(some 31), .bin .leq (.tmp 30) (.c (.t (.i .i64 2147483647))), (some (28, true))⟩),
  (7, ⟨(some 32), .pick (.tmp 28) (.tmp 31) (.c (.t (.b false))), none⟩),
  (8, ⟨(some 33), .mv (.tmp 32), none⟩),
  (9, ⟨(some 34), .fad 1 (.tmp 1), (some (33, true))⟩),
  (10, ⟨(some 35), .load false 1 (.tmp 34), (some (33, true))⟩),
  (11, ⟨(some 36), .lenL (.tmp 35), (some (33, true))⟩),
  (12, ⟨(some 37), .bin .leq (.tmp 36) (.c (.t (.i .i64 32))), (some (33, true))⟩),
  (13, ⟨(some 38), .pick (.tmp 33) (.tmp 37) (.c (.t (.b false))), none⟩),
  (14, ⟨(some 2), .mv (.tmp 38), none⟩)]
abbrev f43r9 : Pc := .reg f43o9 [2] [1]
abbrev f43b : Pc := (.seq f43r0 (.seq f43r1 (.seq (.seq f43r2 (.block 0 (.loop f43l0))) (.seq f43r9 .ret))))
abbrev f43 : Pfn := ⟨1, 39, [.tmp 2], f43b⟩
def f43K : Array (List Nat) := #[[1], [1, 3], [1, 3, 10, 11, 12], [1, 3, 10, 11, 12, 13], [1, 3, 5, 10, 11, 12], [1, 5, 10, 11, 12, 22], [2], [1, 3, 10, 11, 12], [1, 3, 10, 11, 12], [2]]
def f43H : Array (List Nat) := #[[], [], [], [], [], [], [1], [], [], [1]]
def f43A : Ann := ⟨fun r => f43K.getD r [], fun r => f43H.getD r [], fun r i => ([] : List (Nat × Nat)).contains (r, i)⟩
theorem f43C : compF Go.Proofs.Tryz.prog f43A 43 = some f43 := by kernel_rfl

/-- slices.Contains[[]int,int] -/
abbrev f44o0 : List (Nat × Pop) := [
  (0, ⟨(some 4), .mv (.c (.t (.b false))), none⟩)]
abbrev f44r0 : Pc := .reg f44o0 [0, 1] []
abbrev f44o1 : List (Nat × Pop) := [
  (0, ⟨(some 5), .mv (.tmp 0), none⟩),
  (1, ⟨(some 6), .mv (.tmp 1), none⟩),
  (2, ⟨(some 7), .call 67 [(.tmp 5), (.tmp 6)], none⟩),
  (3, ⟨(some 8), .bin .geq (.tmp 7) (.c (.t (.i .i64 0))), none⟩),
  (4, ⟨(some 4), .mv (.tmp 8), none⟩)]
abbrev f44r1 : Pc := .reg f44o1 [4] []
abbrev f44b : Pc := (.seq f44r0 (.seq f44r1 .ret))
abbrev f44 : Pfn := ⟨2, 9, [.tmp 4], f44b⟩
def f44K : Array (List Nat) := #[[0, 1], [4]]
def f44H : Array (List Nat) := #[[], []]
def f44A : Ann := ⟨fun r => f44K.getD r [], fun r => f44H.getD r [], fun r i => ([] : List (Nat × Nat)).contains (r, i)⟩
theorem f44C : compF Go.Proofs.Tryz.prog f44A 44 = some f44 := by kernel_rfl

/-- slices.Clone[[]int,int] -/
abbrev f45o0 : List (Nat × Pop) := [
  (0, ⟨(some 2), .nilv 3 1, none⟩)]
abbrev f45r0 : Pc := .reg f45o0 [0] [2, 5, 7]
abbrev f45o1 : List (Nat × Pop) := [
  (0, ⟨(some 3), .mv (.tmp 0), none⟩),
  (1, ⟨(some 4), .isnilS false (.tmp 3), none⟩)]
abbrev f45r1 : Pc := .reg f45o1 [0, 4] []
abbrev f45o2 : List (Nat × Pop) := [
  (0, ⟨(some 2), .nilv 3 1, none⟩)]
abbrev f45r2 : Pc := .reg f45o2 [2] []
abbrev f45o3 : List (Nat × Pop) := [
  (0, ⟨(some 5), .bslO 3 1 [], none⟩),
  (1, ⟨(some 6), .mv (.tmp 0), none⟩),
  (2, ⟨(some 7), .app 3 1 8 (.tmp 5) (.tmp 6), none⟩),
  (3, ⟨(some 2), .mv (.tmp 7), none⟩)]
abbrev f45r3 : Pc := .reg f45o3 [2] []
abbrev f45b : Pc := (.seq f45r0 (.seq (.seq f45r1 (.cond (.tmp 4) (.seq f45r2 .ret) .skip)) (.seq f45r3 .ret)))
abbrev f45 : Pfn := ⟨1, 8, [.tmp 2], f45b⟩
def f45K : Array (List Nat) := #[[0], [0, 4], [2], [2]]
def f45H : Array (List Nat) := #[[2, 5, 7], [], [], []]
def f45A : Ann := ⟨fun r => f45K.getD r [], fun r => f45H.getD r [], fun r i => ([(3, 0), (3, 0)] : List (Nat × Nat)).contains (r, i)⟩
theorem f45C : compF Go.Proofs.Tryz.prog f45A 45 = some f45 := by kernel_rfl

/-- slices.ContainsFunc[[]switchboard/api.Layer,switchboard/api.Layer] -/
abbrev f48o0 : List (Nat × Pop) := [
  (0, ⟨(some 4), .mv (.c (.t (.b false))), none⟩)]
abbrev f48r0 : Pc := .reg f48o0 [0, 1] []
abbrev f48o1 : List (Nat × Pop) := [
  (0, ⟨(some 5), .mv (.tmp 0), none⟩),
  (1, ⟨(some 6), .mv (.tmp 1), none⟩),
  (2, ⟨(some 7), .call 71 [(.tmp 5), (.tmp 6)], none⟩),
  (3, ⟨(some 8), .bin .geq (.tmp 7) (.c (.t (.i .i64 0))), none⟩),
  (4, ⟨(some 4), .mv (.tmp 8), none⟩)]
abbrev f48r1 : Pc := .reg f48o1 [4] []
abbrev f48b : Pc := (.seq f48r0 (.seq f48r1 .ret))
abbrev f48 : Pfn := ⟨2, 9, [.tmp 4], f48b⟩
def f48K : Array (List Nat) := #[[0, 1], [4]]
def f48H : Array (List Nat) := #[[], []]
def f48A : Ann := ⟨fun r => f48K.getD r [], fun r => f48H.getD r [], fun r i => ([] : List (Nat × Nat)).contains (r, i)⟩
theorem f48C : compF Go.Proofs.Tryz.prog f48A 48 = some f48 := by kernel_rfl

/-- switchboard/model.Right$1 -/
abbrev f49o0 : List (Nat × Pop) := [
  (0, ⟨(some 2), .box 57 3 (.tmp 0), none⟩),
  (1, ⟨(some 3), .mv (.c (.t (.b false))), none⟩)]
abbrev f49r0 : Pc := .reg f49o0 [1, 2] []
abbrev f49o1 : List (Nat × Pop) := [
  (0, ⟨(some 4), .load true 3 (.tmp 2), none⟩),
  (1, ⟨(some 5), .fad 0 (.tmp 1), none⟩),
  (2, ⟨(some 6), .load false 1 (.tmp 5), none⟩),
  (3, ⟨(some 7), .call 50 [(.tmp 4), (.tmp 6)], none⟩),
  (4, ⟨(some 8), .un .not (.tmp 7), none⟩),
  (5, ⟨(some 3), .mv (.tmp 8), none⟩)]
abbrev f49r1 : Pc := .reg f49o1 [3] [2]
abbrev f49b : Pc := (.seq f49r0 (.seq f49r1 .ret))
abbrev f49 : Pfn := ⟨2, 9, [.tmp 3], f49b⟩
def f49K : Array (List Nat) := #[[1, 2], [3]]
def f49H : Array (List Nat) := #[[], [2]]
def f49A : Ann := ⟨fun r => f49K.getD r [], fun r => f49H.getD r [], fun r i => ([] : List (Nat × Nat)).contains (r, i)⟩
theorem f49C : compF Go.Proofs.Tryz.prog f49A 49 = some f49 := by kernel_rfl

/-- switchboard/model.layer -/
abbrev f50o0 : List (Nat × Pop) := [
  (0, ⟨(some 2), .box 57 3 (.tmp 0), none⟩),
  (1, ⟨(some 3), .box 3 1 (.tmp 1), none⟩),
  (2, ⟨(some 4), .mv (.c (.t (.b false))), none⟩)]
abbrev f50r0 : Pc := .reg f50o0 [2, 3] []
abbrev f50o1 : List (Nat × Pop) := [
  (0, ⟨(some 6), .fad 1 (.tmp 2), none⟩),
  (1, ⟨(some 7), .load false 1 (.tmp 6), none⟩),
  (2, ⟨(some 8), .lenL (.tmp 7), none⟩),
  (3, ⟨(some 5), .mv (.tmp 8), none⟩)]
abbrev f50r1 : Pc := .reg f50o1 [2, 3, 5] []
abbrev f50o2 : List (Nat × Pop) := [
  (0, ⟨(some 9), .mv (.tmp 5), none⟩),
  (1, ⟨(some 10), .bin .geq (.tmp 9) (.c (.t (.i .i64 1))), none⟩),
  (2, ⟨(some 11), .mv (.tmp 10), none⟩),
  (3, ⟨(some 12), .mv (.tmp 5), (some (11, true))⟩),
  (4, ⟨(some 13), .bin .leq (.tmp 12) (.c (.t (.i .i64 8))), (some (11, true))⟩),
  (5, ⟨(some 14), .pick (.tmp 11) (.tmp 13) (.c (.t (.b false))), none⟩),
  (6, ⟨(some 15), .mv (.tmp 14), none⟩),
  (7, ⟨(some 16), .fad 0 (.tmp 2), (some (15, true))⟩),
  (8, ⟨(some 17), .load false 1 (.tmp 16), (some (15, true))⟩),
  (9, ⟨(some 18), .mv (.tmp 5), (some (15, true))⟩),
  (10, ⟨(some 19), .load false 1 (.tmp 3), (some (15, true))⟩),
  (11, ⟨(some 20), .call 36 [(.tmp 17), (.tmp 18), (.tmp 19)], (some (15, true))⟩),
  (12, ⟨(some 21), .pick (.tmp 15) (.tmp 20) (.c (.t (.b false))), none⟩),
  (13, ⟨(some 22), .mv (.tmp 21), none⟩),
  (14, ⟨(some 23), .fad 2 (.tmp 2), (some (22, true))⟩),
  (15, ⟨(some 24), .load false 1 (.tmp 23), (some (22, true))⟩),
  (16, ⟨(some 25), .bin .geq (.tmp 24) (.c (.t (.i .i64 1))), (some (22, true))⟩),
  (17, ⟨(some 26), .pick (.tmp 22) (.tmp 25) (.c (.t (.b false))), none⟩),
  (18, ⟨(some 27), .mv (.tmp 26), none⟩),
  (19, ⟨(some 28), .fad 2 (.tmp 2), (some (27, true))⟩),
  (20, ⟨(some 29), .load false 1 (.tmp 28), (some (27, true))⟩),
  (21, ⟨(some 30), .bin .leq (.tmp 29) (.c (.t (.i .i64 32))), (some (27, true))⟩),
  (22, ⟨(some 31), .pick (.tmp 27) (.tmp 30) (.c (.t (.b false))), none⟩),
  (23, ⟨(some 32), .mv (.tmp 31), none⟩),
  (24, ⟨(some 33), .fad 1 (.tmp 2), (some (32, true))⟩),
  (25, ⟨(some 34), .load false 1 (.tmp 33), (some (32, true))⟩),
  (26, ⟨(some 35), .mkfn 73 [(.tmp 3)], (some (32, true))⟩),
  (27, ⟨(some 36), .call 72 [(.tmp 34), (.tmp 35)], (some (32, true))⟩),
  (28, ⟨(some 37), .un .not (.tmp 36), (some (32, true))⟩),
  (29, ⟨(some 38), .pick (.tmp 32) (.tmp 37) (.c (.t (.b false))), none⟩),
  (30, ⟨(some 4), .mv (.tmp 38), none⟩)]
abbrev f50r2 : Pc := .reg f50o2 [4] [2, 3]
abbrev f50b : Pc := (.seq f50r0 (.seq f50r1 (.seq f50r2 .ret)))
abbrev f50 : Pfn := ⟨2, 39, [.tmp 4], f50b⟩
def f50K : Array (List Nat) := #[[2, 3], [2, 3, 5], [4]]
def f50H : Array (List Nat) := #[[], [], [2, 3]]
def f50A : Ann := ⟨fun r => f50K.getD r [], fun r => f50H.getD r [], fun r i => ([] : List (Nat × Nat)).contains (r, i)⟩
theorem f50C : compF Go.Proofs.Tryz.prog f50A 50 = some f50 := by kernel_rfl

/-- slices.ContainsFunc[[][]int,[]int] -/
abbrev f51o0 : List (Nat × Pop) := [
  (0, ⟨(some 4), .mv (.c (.t (.b false))), none⟩)]
abbrev f51r0 : Pc := .reg f51o0 [0, 1] []
abbrev f51o1 : List (Nat × Pop) := [
  (0, ⟨(some 5), .mv (.tmp 0), none⟩),
  (1, ⟨(some 6), .mv (.tmp 1), none⟩),
  (2, ⟨(some 7), .call 74 [(.tmp 5), (.tmp 6)], none⟩),
  (3, ⟨(some 8), .bin .geq (.tmp 7) (.c (.t (.i .i64 0))), none⟩),
  (4, ⟨(some 4), .mv (.tmp 8), none⟩)]
abbrev f51r1 : Pc := .reg f51o1 [4] []
abbrev f51b : Pc := (.seq f51r0 (.seq f51r1 .ret))
abbrev f51 : Pfn := ⟨2, 9, [.tmp 4], f51b⟩
def f51K : Array (List Nat) := #[[0, 1], [4]]
def f51H : Array (List Nat) := #[[], []]
def f51A : Ann := ⟨fun r => f51K.getD r [], fun r => f51H.getD r [], fun r i => ([] : List (Nat × Nat)).contains (r, i)⟩
theorem f51C : compF Go.Proofs.Tryz.prog f51A 51 = some f51 := by kernel_rfl

/-- switchboard/model.Tokens$1 -/
abbrev f52o0 : List (Nat × Pop) := [
  (0, ⟨(some 3), .mv (.c (.t (.b false))), none⟩)]
abbrev f52r0 : Pc := .reg f52o0 [0, 1] []
abbrev f52o1 : List (Nat × Pop) := [
  (0, ⟨(some 4), .mv (.tmp 0), none⟩),
  (1, ⟨(some 5), .lenL (.tmp 4), none⟩),
  (2, ⟨(some 6), .fad 0 (.tmp 1), none⟩),
  (3, ⟨(some 7), .load false 1 (.tmp 6), none⟩),
  (4, ⟨(some 8), .bin .neq (.tmp 5) (.tmp 7), none⟩),
  (5, ⟨(some 9), .mv (.tmp 8), none⟩),
  (6, ⟨(some 10), .mv (.tmp 0), (some (9, false))⟩),
  (7, ⟨(some 11), .call 53 [(.tmp 10), (.c (.fn 54 []))], (some (9, false))⟩),
  (8, ⟨(some 12), .pick (.tmp 9) (.c (.t (.b true))) (.tmp 11), none⟩),
  (9, ⟨(some 3), .mv (.tmp 12), none⟩)]
abbrev f52r1 : Pc := .reg f52o1 [3] []
abbrev f52b : Pc := (.seq f52r0 (.seq f52r1 .ret))
abbrev f52 : Pfn := ⟨2, 13, [.tmp 3], f52b⟩
def f52K : Array (List Nat) := #[[0, 1], [3]]
def f52H : Array (List Nat) := #[[], []]
def f52A : Ann := ⟨fun r => f52K.getD r [], fun r => f52H.getD r [], fun r i => ([] : List (Nat × Nat)).contains (r, i)⟩
theorem f52C : compF Go.Proofs.Tryz.prog f52A 52 = some f52 := by kernel_rfl

/-- slices.ContainsFunc[[]int,int] -/
abbrev f53o0 : List (Nat × Pop) := [
  (0, ⟨(some 4), .mv (.c (.t (.b false))), none⟩)]
abbrev f53r0 : Pc := .reg f53o0 [0, 1] []
abbrev f53o1 : List (Nat × Pop) := [
  (0, ⟨(some 5), .mv (.tmp 0), none⟩),
  (1, ⟨(some 6), .mv (.tmp 1), none⟩),
  (2, ⟨(some 7), .call 75 [(.tmp 5), (.tmp 6)], none⟩),
  (3, ⟨(some 8), .bin .geq (.tmp 7) (.c (.t (.i .i64 0))), none⟩),
  (4, ⟨(some 4), .mv (.tmp 8), none⟩)]
abbrev f53r1 : Pc := .reg f53o1 [4] []
abbrev f53b : Pc := (.seq f53r0 (.seq f53r1 .ret))
abbrev f53 : Pfn := ⟨2, 9, [.tmp 4], f53b⟩
def f53K : Array (List Nat) := #[[0, 1], [4]]
def f53H : Array (List Nat) := #[[], []]
def f53A : Ann := ⟨fun r => f53K.getD r [], fun r => f53H.getD r [], fun r i => ([] : List (Nat × Nat)).contains (r, i)⟩
theorem f53C : compF Go.Proofs.Tryz.prog f53A 53 = some f53 := by kernel_rfl

/-- switchboard/model.Tokens$1$1 -/
abbrev f54o0 : List (Nat × Pop) := [
  (0, ⟨(some 2), .mv (.c (.t (.b false))), none⟩)]
abbrev f54r0 : Pc := .reg f54o0 [0] []
abbrev f54o1 : List (Nat × Pop) := [
  (0, ⟨(some 3), .mv (.tmp 0), none⟩),
  (1, ⟨(some 4), .call 55 [(.tmp 3)], none⟩),
  (2, ⟨(some 5), .mv (.tmp 0), none⟩),
  (3, ⟨(some 6), .bin .neq (.tmp 4) (.tmp 5), none⟩),
  (4, ⟨(some 2), .mv (.tmp 6), none⟩)]
abbrev f54r1 : Pc := .reg f54o1 [2] []
abbrev f54b : Pc := (.seq f54r0 (.seq f54r1 .ret))
abbrev f54 : Pfn := ⟨1, 7, [.tmp 2], f54b⟩
def f54K : Array (List Nat) := #[[0], [2]]
def f54H : Array (List Nat) := #[[], []]
def f54A : Ann := ⟨fun r => f54K.getD r [], fun r => f54H.getD r [], fun r i => ([] : List (Nat × Nat)).contains (r, i)⟩
theorem f54C : compF Go.Proofs.Tryz.prog f54A 54 = some f54 := by kernel_rfl

/-- switchboard/fix.Hold -/
abbrev f55o0 : List (Nat × Pop) := [
  (0, ⟨(some 2), .mv (.c (.t (.i .i64 0))), none⟩)]
abbrev f55r0 : Pc := .reg f55o0 [0] []
abbrev f55o1 : List (Nat × Pop) := [
  (0, ⟨(some 3), .mv (.tmp 0), none⟩),
  (1, ⟨(some 4), .mm false [(.c (.t (.i .i64 2147483647))), (.tmp 3)], none⟩),
  (2, ⟨(some 5), .mm true [(.c (.t (.i .i64 (-2147483647)))), (.tmp 4)], none⟩),
  (3, ⟨(some 2), .mv (.tmp 5), none⟩)]
abbrev f55r1 : Pc := .reg f55o1 [2] []
abbrev f55b : Pc := (.seq f55r0 (.seq f55r1 .ret))
abbrev f55 : Pfn := ⟨1, 6, [.tmp 2], f55b⟩
def f55K : Array (List Nat) := #[[0], [2]]
def f55H : Array (List Nat) := #[[], []]
def f55A : Ann := ⟨fun r => f55K.getD r [], fun r => f55H.getD r [], fun r i => ([] : List (Nat × Nat)).contains (r, i)⟩
theorem f55C : compF Go.Proofs.Tryz.prog f55A 55 = some f55 := by kernel_rfl

/-- switchboard/gate.Choose -/
abbrev f56o0 : List (Nat × Pop) := [
  (0, ⟨(some 4), .alloc 120 [(.t (.i .i64 0)), (.t (.i .i64 0)), (.t (.i .i64 0)), (.t (.i .i64 0))], none⟩),
  (1, ⟨(some 5), .mv (.c (.t (.b false))), none⟩)]
abbrev f56r0 : Pc := .reg f56o0 [0, 1, 4] []
abbrev f56o1 : List (Nat × Pop) := [
  (0, ⟨(some 10), .mv (.tmp 0), none⟩),
  (1, ⟨(some 11), .mv (.tmp 1), none⟩),
  (2, ⟨(some 12), .call 58 [(.tmp 10), (.tmp 11)], none⟩),
  (3, ⟨(some 9), .mv (.tmp 12), none⟩),
  (4, ⟨(some 13), .ext 0 (.tmp 9), none⟩),
  (5, ⟨(some 14), .ext 1 (.tmp 9), none⟩),
  (6, ⟨(some 6), .mv (.tmp 13), none⟩),
  (7, ⟨(some 7), .mv (.tmp 14), none⟩)]
abbrev f56r1 : Pc := .reg f56o1 [0, 4, 6, 7] []
abbrev f56o2 : List (Nat × Pop) := [
  (0, ⟨(some 15), .mv (.tmp 7), none⟩),
  (1, ⟨(some 16), .un .not (.tmp 15), none⟩),
  (2, ⟨(some 17), .mv (.tmp 16), none⟩),
  (3, ⟨(some 18), .mv (.tmp 0), (some (17, false))⟩),
  (4, ⟨(some 19), .lenL (.tmp 18), (some (17, false))⟩),
  (5, ⟨(some 20), .bin .eql (.tmp 19) (.c (.t (.i .i64 0))), (some (17, false))⟩),
  (6, ⟨(some 21), .pick (.tmp 17) (.c (.t (.b true))) (.tmp 20), none⟩)]
abbrev f56r2 : Pc := .reg f56o2 [4, 6, 21] []
abbrev f56o3 : List (Nat × Pop) := [
  (0, ⟨(some 22), .build [(.t (.i .i64 0)), (.t (.i .i64 0)), (.t (.i .i64 0)), (.t (.i .i64 0))] [], none⟩),
  (1, ⟨none, .store 4 (.tmp 4) (.tmp 22), none⟩),
  (2, ⟨(some 5), .mv (.c (.t (.b false))), none⟩)]
abbrev f56r3 : Pc := .reg f56o3 [4, 5] []
abbrev f56o4 : List (Nat × Pop) := [
  (0, ⟨(some 23), .build [(.t (.i .i64 0)), (.t (.i .i64 0)), (.t (.i .i64 0)), (.t (.i .i64 0))] [(2, 1, (.c (.t (.i .i64 65536))))], none⟩),
  (1, ⟨(some 8), .alloc 120 [(.t (.i .i64 0)), (.t (.i .i64 0)), (.t (.i .i64 0)), (.t (.i .i64 0))], none⟩),
  (2, ⟨none, .store 4 (.tmp 8) (.tmp 23), none⟩)]
abbrev f56r4 : Pc := .reg f56o4 [4, 6, 8] []
abbrev f56o5 : List (Nat × Pop) := [
  (0, ⟨(some 25), .mv (.tmp 6), none⟩),
  (1, ⟨(some 26), .call 76 [(.tmp 25)], none⟩),
  (2, ⟨(some 24), .mv (.tmp 26), none⟩),
  (3, ⟨(some 27), .ext 0 (.tmp 24), none⟩),
  (4, ⟨(some 28), .ext 1 (.tmp 24), none⟩),
  (5, ⟨(some 29), .fad 0 (.tmp 8), none⟩),
  (6, ⟨none, .store 1 (.tmp 29) (.tmp 27), none⟩),
  (7, ⟨(some 30), .fad 1 (.tmp 8), none⟩),
  (8, ⟨none, .store 1 (.tmp 30) (.tmp 28), none⟩)]
abbrev f56r5 : Pc := .reg f56o5 [4, 6, 8] []
abbrev f56o6 : List (Nat × Pop) := [
  (0, ⟨(some 31), .fad 1 (.tmp 8), none⟩),
  (1, ⟨(some 32), .load false 1 (.tmp 31), none⟩),
  (2, ⟨(some 33), .bin .geq (.tmp 32) (.c (.t (.i .i64 0))), none⟩)]
abbrev f56r6 : Pc := .reg f56o6 [4, 6, 8, 33] []
abbrev f56o7 : List (Nat × Pop) := [
  (0, ⟨(some 35), .mv (.tmp 6), none⟩),
  (1, ⟨(some 36), .fad 0 (.tmp 8), none⟩),
  (2, ⟨(some 37), .load false 1 (.tmp 36), none⟩),
  (3, ⟨(some 38), .ixS 1 (.tmp 35) (.tmp 37), none⟩),
  (4, ⟨(some 39), .load false 1 (.tmp 38), none⟩),
  (5, ⟨(some 40), .mv (.tmp 6), none⟩),
  (6, ⟨(some 41), .fad 1 (.tmp 8), none⟩),
  (7, ⟨(some 42), .load false 1 (.tmp 41), none⟩),
  (8, ⟨(some 43), .ixS 1 (.tmp 40) (.tmp 42), none⟩),
  (9, ⟨(some 44), .load false 1 (.tmp 43), none⟩),
  (10, ⟨(some 45), .callq 77 [(.tmp 39), (.tmp 44)], none⟩),
  (11, ⟨(some 34), .mv (.tmp 45), none⟩),
  (12, ⟨(some 46), .ext 0 (.tmp 34), none⟩),
  (13, ⟨(some 47), .ext 1 (.tmp 34), none⟩),
  (14, ⟨(some 48), .fad 2 (.tmp 8), none⟩),
  (15, ⟨none, .store 1 (.tmp 48) (.tmp 46), none⟩),
  (16, ⟨(some 49), .fad 3 (.tmp 8), none⟩),
  (17, ⟨none, .store 1 (.tmp 49) (.tmp 47), none⟩)]
abbrev f56r7 : Pc := .reg f56o7 [4, 8] []
abbrev f56o8 : List (Nat × Pop) := [
  (0, ⟨(some 50), .load true 4 (.tmp 8), none⟩),
  (1, ⟨none, .store 4 (.tmp 4) (.tmp 50), none⟩),
  (2, ⟨(some 5), .mv (.c (.t (.b true))), none⟩)]
abbrev f56r8 : Pc := .reg f56o8 [4, 5] [8]
abbrev f56b : Pc := (.seq f56r0 (.seq f56r1 (.seq (.seq f56r2 (.cond (.tmp 21) (.seq f56r3 .ret) .skip)) (.seq f56r4 (.seq f56r5 (.seq (.seq f56r6 (.cond (.tmp 33) f56r7 .skip)) (.seq f56r8 .ret)))))))
abbrev f56 : Pfn := ⟨2, 51, [.cell 4 true 4, .tmp 5], f56b⟩
def f56K : Array (List Nat) := #[[0, 1, 4], [0, 4, 6, 7], [4, 6, 21], [4, 5], [4, 6, 8], [4, 6, 8], [4, 6, 8, 33], [4, 8], [4, 5]]
def f56H : Array (List Nat) := #[[], [], [], [], [], [], [], [], [8]]
def f56A : Ann := ⟨fun r => f56K.getD r [], fun r => f56H.getD r [], fun r i => ([] : List (Nat × Nat)).contains (r, i)⟩
theorem f56C : compF Go.Proofs.Tryz.prog f56A 56 = some f56 := by kernel_rfl

/-- switchboard/slots.Assign -/
abbrev f57o0 : List (Nat × Pop) := [
  (0, ⟨(some 6), .nilv 123 2, none⟩)]
abbrev f57r0 : Pc := .reg f57o0 [0, 1, 2] [6, 8, 54]
abbrev f57o1 : List (Nat × Pop) := [
  (0, ⟨(some 14), .mkm, none⟩),
  (1, ⟨(some 7), .mv (.tmp 14), none⟩)]
abbrev f57r1 : Pc := .reg f57o1 [0, 1, 2, 7] []
abbrev f57o2 : List (Nat × Pop) := [
  (0, ⟨(some 8), .nilv 123 2, none⟩)]
abbrev f57r2 : Pc := .reg f57o2 [0, 1, 2, 7, 8] []
abbrev f57o3 : List (Nat × Pop) := [
  (0, ⟨(some 15), .mv (.tmp 0), none⟩),
  (1, ⟨(some 16), .lenL (.tmp 15), none⟩),
  (2, ⟨(some 17), .mv (.c (.t (.i .i64 0))), none⟩)]
abbrev f57r3 : Pc := .reg f57o3 [1, 2, 7, 8, 15, 16, 17] []
abbrev f57o4 : List (Nat × Pop) := [
  (0, ⟨(some 18), .bin .lss (.tmp 17) (.tmp 16), none⟩)]
abbrev f57r4 : Pc := .reg f57o4 [1, 2, 7, 8, 15, 16, 17, 18] []
abbrev f57o5 : List (Nat × Pop) := [
  (0, ⟨(some 19), .ixS 2 (.tmp 15) (.tmp 17), none⟩),
  (1, ⟨(some 20), .load true 2 (.tmp 19), none⟩),
  (2, ⟨(some 10), .alloc 123 [(.t (.i .i64 0)), (.t (.i .i64 0))], none⟩),
  (3, ⟨none, .store 2 (.tmp 10) (.tmp 20), none⟩)]
abbrev f57r5 : Pc := .reg f57o5 [1, 2, 7, 8, 10, 15, 16, 17] []
abbrev f57o6 : List (Nat × Pop) := [
  (0, ⟨(some 21), .build [(.t (.i .i64 0)), (.t (.i .i64 0))] [(0, 1, (.c (.t (.i .i64 (-1))))), (1, 1, (.c (.t (.i .i64 (-1)))))], none⟩),
  (1, ⟨(some 11), .alloc 123 [(.t (.i .i64 0)), (.t (.i .i64 0))], none⟩),
  (2, ⟨none, .store 2 (.tmp 11) (.tmp 21), none⟩)]
abbrev f57r6 : Pc := .reg f57o6 [1, 2, 7, 8, 10, 11, 15, 16, 17] []
abbrev f57o7 : List (Nat × Pop) := [
  (0, ⟨(some 22), .load true 2 (.tmp 10), none⟩),
  (1, ⟨(some 23), .mv (.c (.t (.i .i64 0))), none⟩)]
abbrev f57r7 : Pc := .reg f57o7 [1, 2, 7, 8, 11, 15, 16, 17, 22, 23] [10]
abbrev f57o8 : List (Nat × Pop) := [
  (0, ⟨(some 24), .bin .lss (.tmp 23) (.c (.t (.i .i64 2))), none⟩)]
abbrev f57r8 : Pc := .reg f57o8 [1, 2, 7, 8, 11, 15, 16, 17, 22, 23, 24] []
abbrev f57o9 : List (Nat × Pop) := [
  (0, ⟨(some 25), .mv (.tmp 23), none⟩),
  (1, ⟨(some 26), .ixV false 2 1 (.tmp 22) (.tmp 23), none⟩),
  (2, ⟨(some 12), .mv (.tmp 25), none⟩),
  (3, ⟨(some 13), .mv (.tmp 26), none⟩)]
abbrev f57r9 : Pc := .reg f57o9 [1, 2, 7, 8, 11, 12, 13, 15, 16, 17, 22, 23] []
abbrev f57o10 : List (Nat × Pop) := [
  (0, ⟨(some 27), .mv (.tmp 13), none⟩),
  (1, ⟨(some 28), .bin .lss (.tmp 27) (.c (.t (.i .i64 0))), none⟩),
  (2, ⟨(some 29), .mv (.tmp 28), none⟩),
  (3, ⟨(some 30), .mv (.tmp 13), (some (29, false))⟩),
  (4, ⟨(some 31), .mv (.tmp 1), (some (29, false))⟩),
  (5, ⟨(some 32), .bin .geq (.tmp 30) (.tmp 31), (some (29, false))⟩),
  (6, ⟨(some 33), .pick (.tmp 29) (.c (.t (.b true))) (.tmp 32), none⟩),
  (7, ⟨(some 34), .mv (.tmp 33), none⟩),
  (8, ⟨(some 35), .mv (.tmp 7), (some (34, false))⟩),
  (9, ⟨(some 36), .mv (.tmp 13), (some (34, false))⟩),
  (10, ⟨(some 37), .mlk (.t (.i .i64 0)) false (.tmp 35) (.tmp 36), (some (34, false))⟩),
  (11, ⟨(some 38), .mv (.tmp 2), (some (34, false))⟩),
  (12, ⟨(some 39), .bin .geq (.tmp 37) (.tmp 38), (some (34, false))⟩),
  (13, ⟨(some 40), .pick (.tmp 34) (.c (.t (.b true))) (.tmp 39), none⟩)]
abbrev f57r10 : Pc := .reg f57o10 [1, 2, 7, 8, 11, 12, 13, 15, 16, 17, 22, 23, 40] []
abbrev f57o11 : List (Nat × Pop) := [
  (0, ⟨(some 41), .mv (.tmp 12), none⟩),
  (1, ⟨(some 42), .mv (.tmp 7), none⟩),
  (2, ⟨(some 43), .mv (.tmp 13), none⟩),
  (3, ⟨(some 44), .mlk (.t (.i .i64 0)) false (.tmp 42) (.tmp 43), none⟩),
  (4, ⟨(some 45), .ixA 2 1 (.tmp 11) (.tmp 41), none⟩),
  (5, ⟨none, .store 1 (.tmp 45) (.tmp 44), none⟩)]
abbrev f57r11 : Pc := .reg f57o11 [1, 2, 7, 8, 11, 13, 15, 16, 17, 22, 23] []
abbrev f57o12 : List (Nat × Pop) := [
  (0, ⟨(some 46), .mv (.tmp 7), none⟩),
  (1, ⟨(some 47), .mv (.tmp 13), none⟩),
  (2, ⟨(some 48), .mlk (.t (.i .i64 0)) false (.tmp 46) (.tmp 47), none⟩),
  (3, ⟨(some 49), .bin .add (.tmp 48) (.c (.t (.i .i64 1))), none⟩),
  (4, ⟨none, .mup (.tmp 46) (.tmp 47) (.tmp 49), none⟩)]
abbrev f57r12 : Pc := .reg f57o12 [1, 2, 7, 8, 11, 15, 16, 17, 22, 23] []
abbrev f57o13 : List (Nat × Pop) := [
  (0, ⟨(some 50), .bin .add (.tmp 23) (.c (.t (.i .i64 1))), none⟩),
  (1, ⟨(some 23), .mv (.tmp 50), none⟩)]
abbrev f57r13 : Pc := .reg f57o13 [1, 2, 7, 8, 11, 15, 16, 17, 22, 23] []
def f57l0 : Pc := (.seq f57r8 (.seq (.cond (.tmp 24) .skip (.exit 2)) (.seq (.block 3 (.seq f57r9 (.seq (.seq f57r10 (.cond (.tmp 40) (.exit 3) .skip)) (.seq f57r11 f57r12)))) f57r13)))
theorem f57l0e (C : Cfg) (s : St) : evL C f57l0 s = evL C (.seq f57r8 (.seq (.cond (.tmp 24) .skip (.exit 2)) (.seq (.block 3 (.seq f57r9 (.seq (.seq f57r10 (.cond (.tmp 40) (.exit 3) .skip)) (.seq f57r11 f57r12)))) f57r13))) s := rfl
abbrev f57o14 : List (Nat × Pop) := [
  (0, ⟨(some 51), .mv (.tmp 8), none⟩),
  (1, ⟨(some 52), .load true 2 (.tmp 11), none⟩),
  (2, ⟨(some 53), .bslT 2 [(.tmp 52)], none⟩),
  (3, ⟨(some 54), .app 123 2 16 (.tmp 51) (.tmp 53), none⟩),
  (4, ⟨(some 8), .mv (.tmp 54), none⟩)]
abbrev f57r14 : Pc := .reg f57o14 [1, 2, 7, 8, 15, 16, 17] [11]
abbrev f57o15 : List (Nat × Pop) := [
  (0, ⟨(some 55), .bin .add (.tmp 17) (.c (.t (.i .i64 1))), none⟩),
  (1, ⟨(some 17), .mv (.tmp 55), none⟩)]
abbrev f57r15 : Pc := .reg f57o15 [1, 2, 7, 8, 15, 16, 17] []
def f57l1 : Pc := (.seq f57r4 (.seq (.cond (.tmp 18) .skip (.exit 0)) (.seq (.block 1 (.seq f57r5 (.seq f57r6 (.seq (.seq f57r7 (.block 2 (.loop f57l0))) f57r14)))) f57r15)))
theorem f57l1e (C : Cfg) (s : St) : evL C f57l1 s = evL C (.seq f57r4 (.seq (.cond (.tmp 18) .skip (.exit 0)) (.seq (.block 1 (.seq f57r5 (.seq f57r6 (.seq (.seq f57r7 (.block 2 (.loop f57l0))) f57r14)))) f57r15))) s := rfl
abbrev f57o16 : List (Nat × Pop) := [
  (0, ⟨(some 56), .mv (.tmp 8), none⟩),
  (1, ⟨(some 6), .mv (.tmp 56), none⟩)]
abbrev f57r16 : Pc := .reg f57o16 [6] [14]
abbrev f57b : Pc := (.seq f57r0 (.seq f57r1 (.seq f57r2 (.seq (.seq f57r3 (.block 0 (.loop f57l1))) (.seq f57r16 .ret)))))
abbrev f57 : Pfn := ⟨3, 57, [.tmp 6], f57b⟩
def f57K : Array (List Nat) := #[[0, 1, 2], [0, 1, 2, 7], [0, 1, 2, 7, 8], [1, 2, 7, 8, 15, 16, 17], [1, 2, 7, 8, 15, 16, 17, 18], [1, 2, 7, 8, 10, 15, 16, 17], [1, 2, 7, 8, 10, 11, 15, 16, 17], [1, 2, 7, 8, 11, 15, 16, 17, 22, 23], [1, 2, 7, 8, 11, 15, 16, 17, 22, 23, 24], [1, 2, 7, 8, 11, 12, 13, 15, 16, 17, 22, 23], [1, 2, 7, 8, 11, 12, 13, 15, 16, 17, 22, 23, 40], [1, 2, 7, 8, 11, 13, 15, 16, 17, 22, 23], [1, 2, 7, 8, 11, 15, 16, 17, 22, 23], [1, 2, 7, 8, 11, 15, 16, 17, 22, 23], [1, 2, 7, 8, 15, 16, 17], [1, 2, 7, 8, 15, 16, 17], [6]]
def f57H : Array (List Nat) := #[[6, 8, 54], [], [], [], [], [], [], [10], [], [], [], [], [], [], [11], [], [14]]
def f57A : Ann := ⟨fun r => f57K.getD r [], fun r => f57H.getD r [], fun r i => ([] : List (Nat × Nat)).contains (r, i)⟩
theorem f57C : compF Go.Proofs.Tryz.prog f57A 57 = some f57 := by kernel_rfl

/-- switchboard/mat.Apply -/
abbrev f58o0 : List (Nat × Pop) := [
  (0, ⟨(some 4), .nilv 3 1, none⟩),
  (1, ⟨(some 5), .mv (.c (.t (.b false))), none⟩)]
abbrev f58r0 : Pc := .reg f58o0 [0, 1] [4, 6, 28]
abbrev f58o1 : List (Nat × Pop) := [
  (0, ⟨(some 6), .nilv 3 1, none⟩)]
abbrev f58r1 : Pc := .reg f58o1 [0, 1, 6] []
abbrev f58o2 : List (Nat × Pop) := [
  (0, ⟨(some 11), .mv (.tmp 0), none⟩),
  (1, ⟨(some 12), .lenL (.tmp 11), none⟩),
  (2, ⟨(some 13), .mv (.c (.t (.i .i64 0))), none⟩)]
abbrev f58r2 : Pc := .reg f58o2 [1, 6, 11, 12, 13] []
abbrev f58o3 : List (Nat × Pop) := [
  (0, ⟨(some 14), .bin .lss (.tmp 13) (.tmp 12), none⟩)]
abbrev f58r3 : Pc := .reg f58o3 [1, 6, 11, 12, 13, 14] []
abbrev f58o4 : List (Nat × Pop) := [
  (0, ⟨(some 15), .ixS 1 (.tmp 11) (.tmp 13), none⟩),
  (1, ⟨(some 16), .load false 1 (.tmp 15), none⟩),
  (2, ⟨(some 8), .mv (.tmp 16), none⟩)]
abbrev f58r4 : Pc := .reg f58o4 [1, 6, 8, 11, 12, 13] []
abbrev f58o5 : List (Nat × Pop) := [
  (0, ⟨(some 18), .mv (.tmp 8), none⟩),
  (1, ⟨(some 19), .mv (.tmp 1), none⟩),
  (2, ⟨(some 20), .call 78 [(.tmp 18), (.tmp 19)], none⟩),
  (3, ⟨(some 17), .mv (.tmp 20), none⟩),
  (4, ⟨(some 21), .ext 0 (.tmp 17), none⟩),
  (5, ⟨(some 22), .ext 1 (.tmp 17), none⟩),
  (6, ⟨(some 9), .mv (.tmp 21), none⟩),
  (7, ⟨(some 10), .mv (.tmp 22), none⟩)]
abbrev f58r5 : Pc := .reg f58o5 [1, 6, 9, 10, 11, 12, 13] []
abbrev f58o6 : List (Nat × Pop) := [
  (0, ⟨(some 23), .mv (.tmp 10), none⟩),
  (1, ⟨(some 24), .un .not (.tmp 23), none⟩)]
abbrev f58r6 : Pc := .reg f58o6 [1, 6, 9, 11, 12, 13, 24] []
abbrev f58o7 : List (Nat × Pop) := [
  (0, ⟨(some 4), .nilv 3 1, none⟩),
  (1, ⟨(some 5), .mv (.c (.t (.b false))), none⟩)]
abbrev f58r7 : Pc := .reg f58o7 [4, 5] []
abbrev f58o8 : List (Nat × Pop) := [
  (0, ⟨(some 25), .mv (.tmp 6), none⟩),
  (1, ⟨(some 26), .mv (.tmp 9), none⟩),
  (2, ⟨(some 27), .bslT 1 [(.tmp 26)], none⟩),
  (3, ⟨(some 28), .app 3 1 8 (.tmp 25) (.tmp 27), none⟩),
  (4, ⟨(some 6), .mv (.tmp 28), none⟩)]
abbrev f58r8 : Pc := .reg f58o8 [1, 6, 11, 12, 13] []
abbrev f58o9 : List (Nat × Pop) := [
  (0, ⟨(some 29), .bin .add (.tmp 13) (.c (.t (.i .i64 1))), none⟩),
  (1, ⟨(some 13), .mv (.tmp 29), none⟩)]
abbrev f58r9 : Pc := .reg f58o9 [1, 6, 11, 12, 13] []
def f58l0 : Pc := (.seq f58r3 (.seq (.cond (.tmp 14) .skip (.exit 0)) (.seq (.block 1 (.seq f58r4 (.seq f58r5 (.seq (.seq f58r6 (.cond (.tmp 24) (.seq f58r7 .ret) .skip)) f58r8)))) f58r9)))
theorem f58l0e (C : Cfg) (s : St) : evL C f58l0 s = evL C (.seq f58r3 (.seq (.cond (.tmp 14) .skip (.exit 0)) (.seq (.block 1 (.seq f58r4 (.seq f58r5 (.seq (.seq f58r6 (.cond (.tmp 24) (.seq f58r7 .ret) .skip)) f58r8)))) f58r9))) s := rfl
abbrev f58o10 : List (Nat × Pop) := [
  (0, ⟨(some 30), .mv (.tmp 6), none⟩),
  (1, ⟨(some 4), .mv (.tmp 30), none⟩),
  (2, ⟨(some 5), .mv (.c (.t (.b true))), none⟩)]
abbrev f58r10 : Pc := .reg f58o10 [4, 5] []
abbrev f58b : Pc := (.seq f58r0 (.seq f58r1 (.seq (.seq f58r2 (.block 0 (.loop f58l0))) (.seq f58r10 .ret))))
abbrev f58 : Pfn := ⟨2, 31, [.tmp 4, .tmp 5], f58b⟩
def f58K : Array (List Nat) := #[[0, 1], [0, 1, 6], [1, 6, 11, 12, 13], [1, 6, 11, 12, 13, 14], [1, 6, 8, 11, 12, 13], [1, 6, 9, 10, 11, 12, 13], [1, 6, 9, 11, 12, 13, 24], [4, 5], [1, 6, 11, 12, 13], [1, 6, 11, 12, 13], [4, 5]]
def f58H : Array (List Nat) := #[[4, 6, 28], [], [], [], [], [], [], [], [], [], []]
def f58A : Ann := ⟨fun r => f58K.getD r [], fun r => f58H.getD r [], fun r i => ([] : List (Nat × Nat)).contains (r, i)⟩
theorem f58C : compF Go.Proofs.Tryz.prog f58A 58 = some f58 := by kernel_rfl

/-- switchboard/vec.Relu -/
abbrev f59o0 : List (Nat × Pop) := [
  (0, ⟨(some 2), .nilv 3 1, none⟩)]
abbrev f59r0 : Pc := .reg f59o0 [0] [2]
abbrev f59o1 : List (Nat × Pop) := [
  (0, ⟨(some 3), .mv (.tmp 0), none⟩),
  (1, ⟨(some 4), .call 79 [(.tmp 3), (.c (.fn 80 []))], none⟩),
  (2, ⟨(some 2), .mv (.tmp 4), none⟩)]
abbrev f59r1 : Pc := .reg f59o1 [2] []
abbrev f59b : Pc := (.seq f59r0 (.seq f59r1 .ret))
abbrev f59 : Pfn := ⟨1, 5, [.tmp 2], f59b⟩
def f59K : Array (List Nat) := #[[0], [2]]
def f59H : Array (List Nat) := #[[2], []]
def f59A : Ann := ⟨fun r => f59K.getD r [], fun r => f59H.getD r [], fun r i => ([] : List (Nat × Nat)).contains (r, i)⟩
theorem f59C : compF Go.Proofs.Tryz.prog f59A 59 = some f59 := by kernel_rfl

/-- slices.Clone[[][]int,[]int] -/
abbrev f60o0 : List (Nat × Pop) := [
  (0, ⟨(some 2), .nilv 38 1, none⟩)]
abbrev f60r0 : Pc := .reg f60o0 [0] [2, 5, 7]
abbrev f60o1 : List (Nat × Pop) := [
  (0, ⟨(some 3), .mv (.tmp 0), none⟩),
  (1, ⟨(some 4), .isnilS false (.tmp 3), none⟩)]
abbrev f60r1 : Pc := .reg f60o1 [0, 4] []
abbrev f60o2 : List (Nat × Pop) := [
  (0, ⟨(some 2), .nilv 38 1, none⟩)]
abbrev f60r2 : Pc := .reg f60o2 [2] []
abbrev f60o3 : List (Nat × Pop) := [
  (0, ⟨(some 5), .bslO 38 1 [], none⟩),
  (1, ⟨(some 6), .mv (.tmp 0), none⟩),
  (2, ⟨(some 7), .app 38 1 24 (.tmp 5) (.tmp 6), none⟩),
  (3, ⟨(some 2), .mv (.tmp 7), none⟩)]
abbrev f60r3 : Pc := .reg f60o3 [2] []
abbrev f60b : Pc := (.seq f60r0 (.seq (.seq f60r1 (.cond (.tmp 4) (.seq f60r2 .ret) .skip)) (.seq f60r3 .ret)))
abbrev f60 : Pfn := ⟨1, 8, [.tmp 2], f60b⟩
def f60K : Array (List Nat) := #[[0], [0, 4], [2], [2]]
def f60H : Array (List Nat) := #[[2, 5, 7], [], [], []]
def f60A : Ann := ⟨fun r => f60K.getD r [], fun r => f60H.getD r [], fun r i => ([(3, 0), (3, 0)] : List (Nat × Nat)).contains (r, i)⟩
theorem f60C : compF Go.Proofs.Tryz.prog f60A 60 = some f60 := by kernel_rfl

/-- switchboard/vec.Add -/
abbrev f61o0 : List (Nat × Pop) := [
  (0, ⟨(some 3), .box 38 1 (.tmp 1), none⟩),
  (1, ⟨(some 4), .nilv 3 1, none⟩),
  (2, ⟨(some 5), .mv (.c (.t (.b false))), none⟩)]
abbrev f61r0 : Pc := .reg f61o0 [0, 3] [4]
abbrev f61o1 : List (Nat × Pop) := [
  (0, ⟨(some 6), .mv (.tmp 0), none⟩),
  (1, ⟨(some 7), .lenL (.tmp 6), none⟩),
  (2, ⟨(some 8), .load false 1 (.tmp 3), none⟩),
  (3, ⟨(some 9), .lenL (.tmp 8), none⟩),
  (4, ⟨(some 10), .bin .neq (.tmp 7) (.tmp 9), none⟩)]
abbrev f61r1 : Pc := .reg f61o1 [0, 3, 10] []
abbrev f61o2 : List (Nat × Pop) := [
  (0, ⟨(some 4), .nilv 3 1, none⟩),
  (1, ⟨(some 5), .mv (.c (.t (.b false))), none⟩)]
abbrev f61r2 : Pc := .reg f61o2 [4, 5] []
abbrev f61o3 : List (Nat × Pop) := [
  (0, ⟨(some 11), .mv (.tmp 0), none⟩),
  (1, ⟨(some 12), .mkfn 81 [(.tmp 3)], none⟩),
  (2, ⟨(some 13), .call 79 [(.tmp 11), (.tmp 12)], none⟩),
  (3, ⟨(some 4), .mv (.tmp 13), none⟩),
  (4, ⟨(some 5), .mv (.c (.t (.b true))), none⟩)]
abbrev f61r3 : Pc := .reg f61o3 [4, 5] []
abbrev f61b : Pc := (.seq f61r0 (.seq (.seq f61r1 (.cond (.tmp 10) (.seq f61r2 .ret) .skip)) (.seq f61r3 .ret)))
abbrev f61 : Pfn := ⟨2, 14, [.tmp 4, .tmp 5], f61b⟩
def f61K : Array (List Nat) := #[[0, 3], [0, 3, 10], [4, 5], [4, 5]]
def f61H : Array (List Nat) := #[[4], [], [], []]
def f61A : Ann := ⟨fun r => f61K.getD r [], fun r => f61H.getD r [], fun r i => ([] : List (Nat × Nat)).contains (r, i)⟩
theorem f61C : compF Go.Proofs.Tryz.prog f61A 61 = some f61 := by kernel_rfl

/-- switchboard/vec.Scale -/
abbrev f62o0 : List (Nat × Pop) := [
  (0, ⟨(some 3), .box 3 1 (.tmp 1), none⟩),
  (1, ⟨(some 4), .nilv 3 1, none⟩)]
abbrev f62r0 : Pc := .reg f62o0 [0, 3] [4]
abbrev f62o1 : List (Nat × Pop) := [
  (0, ⟨(some 5), .mv (.tmp 0), none⟩),
  (1, ⟨(some 6), .mkfn 83 [(.tmp 3)], none⟩),
  (2, ⟨(some 7), .call 79 [(.tmp 5), (.tmp 6)], none⟩),
  (3, ⟨(some 4), .mv (.tmp 7), none⟩)]
abbrev f62r1 : Pc := .reg f62o1 [4] []
abbrev f62b : Pc := (.seq f62r0 (.seq f62r1 .ret))
abbrev f62 : Pfn := ⟨2, 8, [.tmp 4], f62b⟩
def f62K : Array (List Nat) := #[[0, 3], [4]]
def f62H : Array (List Nat) := #[[4], []]
def f62A : Ann := ⟨fun r => f62K.getD r [], fun r => f62H.getD r [], fun r i => ([] : List (Nat × Nat)).contains (r, i)⟩
theorem f62C : compF Go.Proofs.Tryz.prog f62A 62 = some f62 := by kernel_rfl

/-- switchboard/mat.Right$1 -/
abbrev f63o0 : List (Nat × Pop) := [
  (0, ⟨(some 3), .mv (.c (.t (.b false))), none⟩)]
abbrev f63r0 : Pc := .reg f63o0 [0, 1] []
abbrev f63o1 : List (Nat × Pop) := [
  (0, ⟨(some 4), .mv (.tmp 0), none⟩),
  (1, ⟨(some 5), .lenL (.tmp 4), none⟩),
  (2, ⟨(some 6), .load false 1 (.tmp 1), none⟩),
  (3, ⟨(some 7), .bin .neq (.tmp 5) (.tmp 6), none⟩),
  (4, ⟨(some 8), .mv (.tmp 7), none⟩),
  (5, ⟨(some 9), .mv (.tmp 0), (some (8, false))⟩),
  (6, ⟨(some 10), .call 53 [(.tmp 9), (.c (.fn 64 []))], (some (8, false))⟩),
  (7, ⟨(some 11), .pick (.tmp 8) (.c (.t (.b true))) (.tmp 10), none⟩),
  (8, ⟨(some 3), .mv (.tmp 11), none⟩)]
abbrev f63r1 : Pc := .reg f63o1 [3] []
abbrev f63b : Pc := (.seq f63r0 (.seq f63r1 .ret))
abbrev f63 : Pfn := ⟨2, 12, [.tmp 3], f63b⟩
def f63K : Array (List Nat) := #[[0, 1], [3]]
def f63H : Array (List Nat) := #[[], []]
def f63A : Ann := ⟨fun r => f63K.getD r [], fun r => f63H.getD r [], fun r i => ([] : List (Nat × Nat)).contains (r, i)⟩
theorem f63C : compF Go.Proofs.Tryz.prog f63A 63 = some f63 := by kernel_rfl

/-- switchboard/mat.Right$1$1 -/
abbrev f64o0 : List (Nat × Pop) := [
  (0, ⟨(some 2), .mv (.c (.t (.b false))), none⟩)]
abbrev f64r0 : Pc := .reg f64o0 [0] []
abbrev f64o1 : List (Nat × Pop) := [
  (0, ⟨(some 3), .mv (.tmp 0), none⟩),
  (1, ⟨(some 4), .call 55 [(.tmp 3)], none⟩),
  (2, ⟨(some 5), .mv (.tmp 0), none⟩),
  (3, ⟨(some 6), .bin .neq (.tmp 4) (.tmp 5), none⟩),
  (4, ⟨(some 2), .mv (.tmp 6), none⟩)]
abbrev f64r1 : Pc := .reg f64o1 [2] []
abbrev f64b : Pc := (.seq f64r0 (.seq f64r1 .ret))
abbrev f64 : Pfn := ⟨1, 7, [.tmp 2], f64b⟩
def f64K : Array (List Nat) := #[[0], [2]]
def f64H : Array (List Nat) := #[[], []]
def f64A : Ann := ⟨fun r => f64K.getD r [], fun r => f64H.getD r [], fun r i => ([] : List (Nat × Nat)).contains (r, i)⟩
theorem f64C : compF Go.Proofs.Tryz.prog f64A 64 = some f64 := by kernel_rfl

/-- slices.IndexFunc[[]switchboard/link.Frame,switchboard/link.Frame] -/
abbrev f66o0 : List (Nat × Pop) := [
  (0, ⟨(some 4), .mv (.c (.t (.i .i64 0))), none⟩)]
abbrev f66r0 : Pc := .reg f66o0 [0, 1] []
abbrev f66o1 : List (Nat × Pop) := [
  (0, ⟨(some 6), .mv (.tmp 0), none⟩),
  (1, ⟨(some 7), .lenL (.tmp 6), none⟩),
  (2, ⟨(some 8), .mv (.c (.t (.i .i64 0))), none⟩)]
abbrev f66r1 : Pc := .reg f66o1 [0, 1, 7, 8] []
abbrev f66o2 : List (Nat × Pop) := [
  (0, ⟨(some 9), .bin .lss (.tmp 8) (.tmp 7), none⟩)]
abbrev f66r2 : Pc := .reg f66o2 [0, 1, 7, 8, 9] []
abbrev f66o3 : List (Nat × Pop) := [
  (0, ⟨(some 10), .mv (.tmp 8), none⟩),
  (1, ⟨(some 5), .mv (.tmp 10), none⟩)]
abbrev f66r3 : Pc := .reg f66o3 [0, 1, 5, 7, 8] []
abbrev f66o4 : List (Nat × Pop) := [
  (0, ⟨(some 11), .mv (.tmp 1), none⟩),
  (1, ⟨(some 12), .mv (.tmp 0), none⟩),
  (2, ⟨(some 13), .mv (.tmp 5), none⟩),
  (3, ⟨(some 14), .ixS 2 (.tmp 12) (.tmp 13), none⟩),
  (4, ⟨(some 15), .load true 2 (.tmp 14), none⟩),
  (5, ⟨(some 16), .callv (.tmp 11) [(.tmp 15)], none⟩)]
abbrev f66r4 : Pc := .reg f66o4 [0, 1, 5, 7, 8, 16] []
abbrev f66o5 : List (Nat × Pop) := [
  (0, ⟨(some 17), .mv (.tmp 5), none⟩),
  (1, ⟨(some 4), .mv (.tmp 17), none⟩)]
abbrev f66r5 : Pc := .reg f66o5 [4] []
abbrev f66o6 : List (Nat × Pop) := [
  (0, ⟨(some 18), .bin .add (.tmp 8) (.c (.t (.i .i64 1))), none⟩),
  (1, ⟨(some 8), .mv (.tmp 18), none⟩)]
abbrev f66r6 : Pc := .reg f66o6 [0, 1, 7, 8] []
def f66l0 : Pc := (.seq f66r2 (.seq (.cond (.tmp 9) .skip (.exit 0)) (.seq (.block 1 (.seq f66r3 (.seq f66r4 (.cond (.tmp 16) (.seq f66r5 .ret) .skip)))) f66r6)))
theorem f66l0e (C : Cfg) (s : St) : evL C f66l0 s = evL C (.seq f66r2 (.seq (.cond (.tmp 9) .skip (.exit 0)) (.seq (.block 1 (.seq f66r3 (.seq f66r4 (.cond (.tmp 16) (.seq f66r5 .ret) .skip)))) f66r6))) s := rfl
abbrev f66o7 : List (Nat × Pop) := [
  (0, ⟨(some 4), .mv (.c (.t (.i .i64 (-1)))), none⟩)]
abbrev f66r7 : Pc := .reg f66o7 [4] []
abbrev f66b : Pc := (.seq f66r0 (.seq (.seq f66r1 (.block 0 (.loop f66l0))) (.seq f66r7 .ret)))
abbrev f66 : Pfn := ⟨2, 19, [.tmp 4], f66b⟩
def f66K : Array (List Nat) := #[[0, 1], [0, 1, 7, 8], [0, 1, 7, 8, 9], [0, 1, 5, 7, 8], [0, 1, 5, 7, 8, 16], [4], [0, 1, 7, 8], [4]]
def f66H : Array (List Nat) := #[[], [], [], [], [], [], [], []]
def f66A : Ann := ⟨fun r => f66K.getD r [], fun r => f66H.getD r [], fun r i => ([] : List (Nat × Nat)).contains (r, i)⟩
theorem f66C : compF Go.Proofs.Tryz.prog f66A 66 = some f66 := by kernel_rfl

/-- slices.Index[[]int,int] -/
abbrev f67o0 : List (Nat × Pop) := [
  (0, ⟨(some 4), .mv (.c (.t (.i .i64 0))), none⟩)]
abbrev f67r0 : Pc := .reg f67o0 [0, 1] []
abbrev f67o1 : List (Nat × Pop) := [
  (0, ⟨(some 6), .mv (.tmp 0), none⟩),
  (1, ⟨(some 7), .lenL (.tmp 6), none⟩),
  (2, ⟨(some 8), .mv (.c (.t (.i .i64 0))), none⟩)]
abbrev f67r1 : Pc := .reg f67o1 [0, 1, 7, 8] []
abbrev f67o2 : List (Nat × Pop) := [
  (0, ⟨(some 9), .bin .lss (.tmp 8) (.tmp 7), none⟩)]
abbrev f67r2 : Pc := .reg f67o2 [0, 1, 7, 8, 9] []
abbrev f67o3 : List (Nat × Pop) := [
  (0, ⟨(some 10), .mv (.tmp 8), none⟩),
  (1, ⟨(some 5), .mv (.tmp 10), none⟩)]
abbrev f67r3 : Pc := .reg f67o3 [0, 1, 5, 7, 8] []
abbrev f67o4 : List (Nat × Pop) := [
  (0, ⟨(some 11), .mv (.tmp 1), none⟩),
  (1, ⟨(some 12), .mv (.tmp 0), none⟩),
  (2, ⟨(some 13), .mv (.tmp 5), none⟩),
  (3, ⟨(some 14), .ixS 1 (.tmp 12) (.tmp 13), none⟩),
  (4, ⟨(some 15), .load false 1 (.tmp 14), none⟩),
  (5, ⟨(some 16), .bin .eql (.tmp 11) (.tmp 15), none⟩)]
abbrev f67r4 : Pc := .reg f67o4 [0, 1, 5, 7, 8, 16] []
abbrev f67o5 : List (Nat × Pop) := [
  (0, ⟨(some 17), .mv (.tmp 5), none⟩),
  (1, ⟨(some 4), .mv (.tmp 17), none⟩)]
abbrev f67r5 : Pc := .reg f67o5 [4] []
abbrev f67o6 : List (Nat × Pop) := [
  (0, ⟨(some 18), .bin .add (.tmp 8) (.c (.t (.i .i64 1))), none⟩),
  (1, ⟨(some 8), .mv (.tmp 18), none⟩)]
abbrev f67r6 : Pc := .reg f67o6 [0, 1, 7, 8] []
def f67l0 : Pc := (.seq f67r2 (.seq (.cond (.tmp 9) .skip (.exit 0)) (.seq (.block 1 (.seq f67r3 (.seq f67r4 (.cond (.tmp 16) (.seq f67r5 .ret) .skip)))) f67r6)))
theorem f67l0e (C : Cfg) (s : St) : evL C f67l0 s = evL C (.seq f67r2 (.seq (.cond (.tmp 9) .skip (.exit 0)) (.seq (.block 1 (.seq f67r3 (.seq f67r4 (.cond (.tmp 16) (.seq f67r5 .ret) .skip)))) f67r6))) s := rfl
abbrev f67o7 : List (Nat × Pop) := [
  (0, ⟨(some 4), .mv (.c (.t (.i .i64 (-1)))), none⟩)]
abbrev f67r7 : Pc := .reg f67o7 [4] []
abbrev f67b : Pc := (.seq f67r0 (.seq (.seq f67r1 (.block 0 (.loop f67l0))) (.seq f67r7 .ret)))
abbrev f67 : Pfn := ⟨2, 19, [.tmp 4], f67b⟩
def f67K : Array (List Nat) := #[[0, 1], [0, 1, 7, 8], [0, 1, 7, 8, 9], [0, 1, 5, 7, 8], [0, 1, 5, 7, 8, 16], [4], [0, 1, 7, 8], [4]]
def f67H : Array (List Nat) := #[[], [], [], [], [], [], [], []]
def f67A : Ann := ⟨fun r => f67K.getD r [], fun r => f67H.getD r [], fun r i => ([] : List (Nat × Nat)).contains (r, i)⟩
theorem f67C : compF Go.Proofs.Tryz.prog f67A 67 = some f67 := by kernel_rfl

/-- slices.IndexFunc[[]switchboard/api.Layer,switchboard/api.Layer] -/
abbrev f71o0 : List (Nat × Pop) := [
  (0, ⟨(some 4), .mv (.c (.t (.i .i64 0))), none⟩)]
abbrev f71r0 : Pc := .reg f71o0 [0, 1] []
abbrev f71o1 : List (Nat × Pop) := [
  (0, ⟨(some 6), .mv (.tmp 0), none⟩),
  (1, ⟨(some 7), .lenL (.tmp 6), none⟩),
  (2, ⟨(some 8), .mv (.c (.t (.i .i64 0))), none⟩)]
abbrev f71r1 : Pc := .reg f71o1 [0, 1, 7, 8] []
abbrev f71o2 : List (Nat × Pop) := [
  (0, ⟨(some 9), .bin .lss (.tmp 8) (.tmp 7), none⟩)]
abbrev f71r2 : Pc := .reg f71o2 [0, 1, 7, 8, 9] []
abbrev f71o3 : List (Nat × Pop) := [
  (0, ⟨(some 10), .mv (.tmp 8), none⟩),
  (1, ⟨(some 5), .mv (.tmp 10), none⟩)]
abbrev f71r3 : Pc := .reg f71o3 [0, 1, 5, 7, 8] []
abbrev f71o4 : List (Nat × Pop) := [
  (0, ⟨(some 11), .mv (.tmp 1), none⟩),
  (1, ⟨(some 12), .mv (.tmp 0), none⟩),
  (2, ⟨(some 13), .mv (.tmp 5), none⟩),
  (3, ⟨(some 14), .ixS 3 (.tmp 12) (.tmp 13), none⟩),
  (4, ⟨(some 15), .load true 3 (.tmp 14), none⟩),
  (5, ⟨(some 16), .callv (.tmp 11) [(.tmp 15)], none⟩)]
abbrev f71r4 : Pc := .reg f71o4 [0, 1, 5, 7, 8, 16] []
abbrev f71o5 : List (Nat × Pop) := [
  (0, ⟨(some 17), .mv (.tmp 5), none⟩),
  (1, ⟨(some 4), .mv (.tmp 17), none⟩)]
abbrev f71r5 : Pc := .reg f71o5 [4] []
abbrev f71o6 : List (Nat × Pop) := [
  (0, ⟨(some 18), .bin .add (.tmp 8) (.c (.t (.i .i64 1))), none⟩),
  (1, ⟨(some 8), .mv (.tmp 18), none⟩)]
abbrev f71r6 : Pc := .reg f71o6 [0, 1, 7, 8] []
def f71l0 : Pc := (.seq f71r2 (.seq (.cond (.tmp 9) .skip (.exit 0)) (.seq (.block 1 (.seq f71r3 (.seq f71r4 (.cond (.tmp 16) (.seq f71r5 .ret) .skip)))) f71r6)))
theorem f71l0e (C : Cfg) (s : St) : evL C f71l0 s = evL C (.seq f71r2 (.seq (.cond (.tmp 9) .skip (.exit 0)) (.seq (.block 1 (.seq f71r3 (.seq f71r4 (.cond (.tmp 16) (.seq f71r5 .ret) .skip)))) f71r6))) s := rfl
abbrev f71o7 : List (Nat × Pop) := [
  (0, ⟨(some 4), .mv (.c (.t (.i .i64 (-1)))), none⟩)]
abbrev f71r7 : Pc := .reg f71o7 [4] []
abbrev f71b : Pc := (.seq f71r0 (.seq (.seq f71r1 (.block 0 (.loop f71l0))) (.seq f71r7 .ret)))
abbrev f71 : Pfn := ⟨2, 19, [.tmp 4], f71b⟩
def f71K : Array (List Nat) := #[[0, 1], [0, 1, 7, 8], [0, 1, 7, 8, 9], [0, 1, 5, 7, 8], [0, 1, 5, 7, 8, 16], [4], [0, 1, 7, 8], [4]]
def f71H : Array (List Nat) := #[[], [], [], [], [], [], [], []]
def f71A : Ann := ⟨fun r => f71K.getD r [], fun r => f71H.getD r [], fun r i => ([] : List (Nat × Nat)).contains (r, i)⟩
theorem f71C : compF Go.Proofs.Tryz.prog f71A 71 = some f71 := by kernel_rfl

/-- slices.ContainsFunc[[]switchboard/api.Expert,switchboard/api.Expert] -/
abbrev f72o0 : List (Nat × Pop) := [
  (0, ⟨(some 4), .mv (.c (.t (.b false))), none⟩)]
abbrev f72r0 : Pc := .reg f72o0 [0, 1] []
abbrev f72o1 : List (Nat × Pop) := [
  (0, ⟨(some 5), .mv (.tmp 0), none⟩),
  (1, ⟨(some 6), .mv (.tmp 1), none⟩),
  (2, ⟨(some 7), .call 97 [(.tmp 5), (.tmp 6)], none⟩),
  (3, ⟨(some 8), .bin .geq (.tmp 7) (.c (.t (.i .i64 0))), none⟩),
  (4, ⟨(some 4), .mv (.tmp 8), none⟩)]
abbrev f72r1 : Pc := .reg f72o1 [4] []
abbrev f72b : Pc := (.seq f72r0 (.seq f72r1 .ret))
abbrev f72 : Pfn := ⟨2, 9, [.tmp 4], f72b⟩
def f72K : Array (List Nat) := #[[0, 1], [4]]
def f72H : Array (List Nat) := #[[], []]
def f72A : Ann := ⟨fun r => f72K.getD r [], fun r => f72H.getD r [], fun r i => ([] : List (Nat × Nat)).contains (r, i)⟩
theorem f72C : compF Go.Proofs.Tryz.prog f72A 72 = some f72 := by kernel_rfl

/-- switchboard/model.layer$1 -/
abbrev f73o0 : List (Nat × Pop) := [
  (0, ⟨(some 2), .box 24 2 (.tmp 0), none⟩),
  (1, ⟨(some 3), .mv (.c (.t (.b false))), none⟩)]
abbrev f73r0 : Pc := .reg f73o0 [1, 2] []
abbrev f73o1 : List (Nat × Pop) := [
  (0, ⟨(some 4), .load true 2 (.tmp 2), none⟩),
  (1, ⟨(some 5), .load false 1 (.tmp 1), none⟩),
  (2, ⟨(some 6), .call 17 [(.tmp 4), (.tmp 5)], none⟩),
  (3, ⟨(some 7), .un .not (.tmp 6), none⟩),
  (4, ⟨(some 3), .mv (.tmp 7), none⟩)]
abbrev f73r1 : Pc := .reg f73o1 [3] [2]
abbrev f73b : Pc := (.seq f73r0 (.seq f73r1 .ret))
abbrev f73 : Pfn := ⟨2, 8, [.tmp 3], f73b⟩
def f73K : Array (List Nat) := #[[1, 2], [3]]
def f73H : Array (List Nat) := #[[], [2]]
def f73A : Ann := ⟨fun r => f73K.getD r [], fun r => f73H.getD r [], fun r i => ([] : List (Nat × Nat)).contains (r, i)⟩
theorem f73C : compF Go.Proofs.Tryz.prog f73A 73 = some f73 := by kernel_rfl

/-- slices.IndexFunc[[][]int,[]int] -/
abbrev f74o0 : List (Nat × Pop) := [
  (0, ⟨(some 4), .mv (.c (.t (.i .i64 0))), none⟩)]
abbrev f74r0 : Pc := .reg f74o0 [0, 1] []
abbrev f74o1 : List (Nat × Pop) := [
  (0, ⟨(some 6), .mv (.tmp 0), none⟩),
  (1, ⟨(some 7), .lenL (.tmp 6), none⟩),
  (2, ⟨(some 8), .mv (.c (.t (.i .i64 0))), none⟩)]
abbrev f74r1 : Pc := .reg f74o1 [0, 1, 7, 8] []
abbrev f74o2 : List (Nat × Pop) := [
  (0, ⟨(some 9), .bin .lss (.tmp 8) (.tmp 7), none⟩)]
abbrev f74r2 : Pc := .reg f74o2 [0, 1, 7, 8, 9] []
abbrev f74o3 : List (Nat × Pop) := [
  (0, ⟨(some 10), .mv (.tmp 8), none⟩),
  (1, ⟨(some 5), .mv (.tmp 10), none⟩)]
abbrev f74r3 : Pc := .reg f74o3 [0, 1, 5, 7, 8] []
abbrev f74o4 : List (Nat × Pop) := [
  (0, ⟨(some 11), .mv (.tmp 1), none⟩),
  (1, ⟨(some 12), .mv (.tmp 0), none⟩),
  (2, ⟨(some 13), .mv (.tmp 5), none⟩),
  (3, ⟨(some 14), .ixS 1 (.tmp 12) (.tmp 13), none⟩),
  (4, ⟨(some 15), .load false 1 (.tmp 14), none⟩),
  (5, ⟨(some 16), .callv (.tmp 11) [(.tmp 15)], none⟩)]
abbrev f74r4 : Pc := .reg f74o4 [0, 1, 5, 7, 8, 16] []
abbrev f74o5 : List (Nat × Pop) := [
  (0, ⟨(some 17), .mv (.tmp 5), none⟩),
  (1, ⟨(some 4), .mv (.tmp 17), none⟩)]
abbrev f74r5 : Pc := .reg f74o5 [4] []
abbrev f74o6 : List (Nat × Pop) := [
  (0, ⟨(some 18), .bin .add (.tmp 8) (.c (.t (.i .i64 1))), none⟩),
  (1, ⟨(some 8), .mv (.tmp 18), none⟩)]
abbrev f74r6 : Pc := .reg f74o6 [0, 1, 7, 8] []
def f74l0 : Pc := (.seq f74r2 (.seq (.cond (.tmp 9) .skip (.exit 0)) (.seq (.block 1 (.seq f74r3 (.seq f74r4 (.cond (.tmp 16) (.seq f74r5 .ret) .skip)))) f74r6)))
theorem f74l0e (C : Cfg) (s : St) : evL C f74l0 s = evL C (.seq f74r2 (.seq (.cond (.tmp 9) .skip (.exit 0)) (.seq (.block 1 (.seq f74r3 (.seq f74r4 (.cond (.tmp 16) (.seq f74r5 .ret) .skip)))) f74r6))) s := rfl
abbrev f74o7 : List (Nat × Pop) := [
  (0, ⟨(some 4), .mv (.c (.t (.i .i64 (-1)))), none⟩)]
abbrev f74r7 : Pc := .reg f74o7 [4] []
abbrev f74b : Pc := (.seq f74r0 (.seq (.seq f74r1 (.block 0 (.loop f74l0))) (.seq f74r7 .ret)))
abbrev f74 : Pfn := ⟨2, 19, [.tmp 4], f74b⟩
def f74K : Array (List Nat) := #[[0, 1], [0, 1, 7, 8], [0, 1, 7, 8, 9], [0, 1, 5, 7, 8], [0, 1, 5, 7, 8, 16], [4], [0, 1, 7, 8], [4]]
def f74H : Array (List Nat) := #[[], [], [], [], [], [], [], []]
def f74A : Ann := ⟨fun r => f74K.getD r [], fun r => f74H.getD r [], fun r i => ([] : List (Nat × Nat)).contains (r, i)⟩
theorem f74C : compF Go.Proofs.Tryz.prog f74A 74 = some f74 := by kernel_rfl

/-- slices.IndexFunc[[]int,int] -/
abbrev f75o0 : List (Nat × Pop) := [
  (0, ⟨(some 4), .mv (.c (.t (.i .i64 0))), none⟩)]
abbrev f75r0 : Pc := .reg f75o0 [0, 1] []
abbrev f75o1 : List (Nat × Pop) := [
  (0, ⟨(some 6), .mv (.tmp 0), none⟩),
  (1, ⟨(some 7), .lenL (.tmp 6), none⟩),
  (2, ⟨(some 8), .mv (.c (.t (.i .i64 0))), none⟩)]
abbrev f75r1 : Pc := .reg f75o1 [0, 1, 7, 8] []
abbrev f75o2 : List (Nat × Pop) := [
  (0, ⟨(some 9), .bin .lss (.tmp 8) (.tmp 7), none⟩)]
abbrev f75r2 : Pc := .reg f75o2 [0, 1, 7, 8, 9] []
abbrev f75o3 : List (Nat × Pop) := [
  (0, ⟨(some 10), .mv (.tmp 8), none⟩),
  (1, ⟨(some 5), .mv (.tmp 10), none⟩)]
abbrev f75r3 : Pc := .reg f75o3 [0, 1, 5, 7, 8] []
abbrev f75o4 : List (Nat × Pop) := [
  (0, ⟨(some 11), .mv (.tmp 1), none⟩),
  (1, ⟨(some 12), .mv (.tmp 0), none⟩),
  (2, ⟨(some 13), .mv (.tmp 5), none⟩),
  (3, ⟨(some 14), .ixS 1 (.tmp 12) (.tmp 13), none⟩),
  (4, ⟨(some 15), .load false 1 (.tmp 14), none⟩),
  (5, ⟨(some 16), .callv (.tmp 11) [(.tmp 15)], none⟩)]
abbrev f75r4 : Pc := .reg f75o4 [0, 1, 5, 7, 8, 16] []
abbrev f75o5 : List (Nat × Pop) := [
  (0, ⟨(some 17), .mv (.tmp 5), none⟩),
  (1, ⟨(some 4), .mv (.tmp 17), none⟩)]
abbrev f75r5 : Pc := .reg f75o5 [4] []
abbrev f75o6 : List (Nat × Pop) := [
  (0, ⟨(some 18), .bin .add (.tmp 8) (.c (.t (.i .i64 1))), none⟩),
  (1, ⟨(some 8), .mv (.tmp 18), none⟩)]
abbrev f75r6 : Pc := .reg f75o6 [0, 1, 7, 8] []
def f75l0 : Pc := (.seq f75r2 (.seq (.cond (.tmp 9) .skip (.exit 0)) (.seq (.block 1 (.seq f75r3 (.seq f75r4 (.cond (.tmp 16) (.seq f75r5 .ret) .skip)))) f75r6)))
theorem f75l0e (C : Cfg) (s : St) : evL C f75l0 s = evL C (.seq f75r2 (.seq (.cond (.tmp 9) .skip (.exit 0)) (.seq (.block 1 (.seq f75r3 (.seq f75r4 (.cond (.tmp 16) (.seq f75r5 .ret) .skip)))) f75r6))) s := rfl
abbrev f75o7 : List (Nat × Pop) := [
  (0, ⟨(some 4), .mv (.c (.t (.i .i64 (-1)))), none⟩)]
abbrev f75r7 : Pc := .reg f75o7 [4] []
abbrev f75b : Pc := (.seq f75r0 (.seq (.seq f75r1 (.block 0 (.loop f75l0))) (.seq f75r7 .ret)))
abbrev f75 : Pfn := ⟨2, 19, [.tmp 4], f75b⟩
def f75K : Array (List Nat) := #[[0, 1], [0, 1, 7, 8], [0, 1, 7, 8, 9], [0, 1, 5, 7, 8], [0, 1, 5, 7, 8, 16], [4], [0, 1, 7, 8], [4]]
def f75H : Array (List Nat) := #[[], [], [], [], [], [], [], []]
def f75A : Ann := ⟨fun r => f75K.getD r [], fun r => f75H.getD r [], fun r i => ([] : List (Nat × Nat)).contains (r, i)⟩
theorem f75C : compF Go.Proofs.Tryz.prog f75A 75 = some f75 := by kernel_rfl

/-- switchboard/top.Two -/
abbrev f76o0 : List (Nat × Pop) := [
  (0, ⟨(some 2), .mv (.c (.t (.i .i64 0))), none⟩),
  (1, ⟨(some 3), .mv (.c (.t (.i .i64 0))), none⟩)]
abbrev f76r0 : Pc := .reg f76o0 [0] []
abbrev f76o1 : List (Nat × Pop) := [
  (0, ⟨(some 5), .mv (.tmp 0), none⟩),
  (1, ⟨(some 6), .call 98 [(.tmp 5)], none⟩),
  (2, ⟨(some 4), .mv (.tmp 6), none⟩)]
abbrev f76r1 : Pc := .reg f76o1 [0, 4] []
abbrev f76o2 : List (Nat × Pop) := [
  (0, ⟨(some 7), .mv (.tmp 4), none⟩),
  (1, ⟨(some 8), .mv (.tmp 0), none⟩),
  (2, ⟨(some 9), .mv (.tmp 4), none⟩),
  (3, ⟨(some 10), .call 99 [(.tmp 8), (.tmp 9)], none⟩),
  (4, ⟨(some 2), .mv (.tmp 7), none⟩),
  (5, ⟨(some 3), .mv (.tmp 10), none⟩)]
abbrev f76r2 : Pc := .reg f76o2 [2, 3] []
abbrev f76b : Pc := (.seq f76r0 (.seq f76r1 (.seq f76r2 .ret)))
abbrev f76 : Pfn := ⟨1, 11, [.tmp 2, .tmp 3], f76b⟩
def f76K : Array (List Nat) := #[[0], [0, 4], [2, 3]]
def f76H : Array (List Nat) := #[[], [], []]
def f76A : Ann := ⟨fun r => f76K.getD r [], fun r => f76H.getD r [], fun r i => ([] : List (Nat × Nat)).contains (r, i)⟩
theorem f76C : compF Go.Proofs.Tryz.prog f76A 76 = some f76 := by kernel_rfl

/-- switchboard/share.Shares -/
abbrev f77o0 : List (Nat × Pop) := [
  (0, ⟨(some 4), .mv (.c (.t (.i .i64 0))), none⟩),
  (1, ⟨(some 5), .mv (.c (.t (.i .i64 0))), none⟩)]
abbrev f77r0 : Pc := .reg f77o0 [0, 1] []
abbrev f77o1 : List (Nat × Pop) := [
  (0, ⟨(some 9), .mv (.tmp 0), none⟩),
  (1, ⟨(some 10), .call 55 [(.tmp 9)], none⟩),
  (2, ⟨(some 11), .mm true [(.tmp 10), (.c (.t (.i .i64 0)))], none⟩),
  (3, ⟨(some 12), .bin .add (.tmp 11) (.c (.t (.i .i64 1))), none⟩),
  (4, ⟨(some 13), .mv (.tmp 1), none⟩),
  (5, ⟨(some 14), .call 55 [(.tmp 13)], none⟩),
  (6, ⟨(some 15), .mm true [(.tmp 14), (.c (.t (.i .i64 0)))], none⟩),
  (7, ⟨(some 16), .bin .add (.tmp 15) (.c (.t (.i .i64 1))), none⟩),
  (8, ⟨(some 6), .mv (.tmp 12), none⟩),
  (9, ⟨(some 7), .mv (.tmp 16), none⟩)]
abbrev f77r1 : Pc := .reg f77o1 [6, 7] []
abbrev f77o2 : List (Nat × Pop) := [
  (0, ⟨(some 17), .mv (.tmp 6), none⟩),
  (1, ⟨(some 18), .bin .mul (.tmp 17) (.c (.t (.i .i64 65536))), none⟩),
  (2, ⟨(some 19), .mv (.tmp 6), none⟩),
  (3, ⟨(some 20), .mv (.tmp 7), none⟩),
  (4, ⟨(some 21), .bin .add (.tmp 19) (.tmp 20), none⟩),
  (5, ⟨(some 22), .bin .quo (.tmp 18) (.tmp 21), none⟩),
  (6, ⟨(some 8), .mv (.tmp 22), none⟩)]
abbrev f77r2 : Pc := .reg f77o2 [8] []
abbrev f77o3 : List (Nat × Pop) := [
  (0, ⟨(some 23), .mv (.tmp 8), none⟩),
  (1, ⟨(some 24), .mv (.tmp 8), none⟩),
  (2, ⟨(some 25), .bin .sub (.c (.t (.i .i64 65536))) (.tmp 24), none⟩),
  (3, ⟨(some 4), .mv (.tmp 23), none⟩),
  (4, ⟨(some 5), .mv (.tmp 25), none⟩)]
abbrev f77r3 : Pc := .reg f77o3 [4, 5] []
abbrev f77b : Pc := (.seq f77r0 (.seq f77r1 (.seq f77r2 (.seq f77r3 .ret))))
abbrev f77 : Pfn := ⟨2, 26, [.tmp 4, .tmp 5], f77b⟩
def f77K : Array (List Nat) := #[[0, 1], [6, 7], [8], [4, 5]]
def f77H : Array (List Nat) := #[[], [], [], []]
def f77A : Ann := ⟨fun r => f77K.getD r [], fun r => f77H.getD r [], fun r i => ([] : List (Nat × Nat)).contains (r, i)⟩
theorem f77C : compF Go.Proofs.Tryz.prog f77A 77 = some f77 := by kernel_rfl

/-- switchboard/vec.Dot -/
abbrev f78o0 : List (Nat × Pop) := [
  (0, ⟨(some 4), .mv (.c (.t (.i .i64 0))), none⟩),
  (1, ⟨(some 5), .mv (.c (.t (.b false))), none⟩)]
abbrev f78r0 : Pc := .reg f78o0 [0, 1] []
abbrev f78o1 : List (Nat × Pop) := [
  (0, ⟨(some 9), .mv (.tmp 0), none⟩),
  (1, ⟨(some 10), .lenL (.tmp 9), none⟩),
  (2, ⟨(some 11), .mv (.tmp 1), none⟩),
  (3, ⟨(some 12), .lenL (.tmp 11), none⟩),
  (4, ⟨(some 13), .bin .neq (.tmp 10) (.tmp 12), none⟩)]
abbrev f78r1 : Pc := .reg f78o1 [0, 1, 13] []
abbrev f78o2 : List (Nat × Pop) := [
  (0, ⟨(some 4), .mv (.c (.t (.i .i64 0))), none⟩),
  (1, ⟨(some 5), .mv (.c (.t (.b false))), none⟩)]
abbrev f78r2 : Pc := .reg f78o2 [4, 5] []
abbrev f78o3 : List (Nat × Pop) := [
  (0, ⟨(some 6), .mv (.c (.t (.i .i64 0))), none⟩)]
abbrev f78r3 : Pc := .reg f78o3 [0, 1, 6] []
abbrev f78o4 : List (Nat × Pop) := [
  (0, ⟨(some 14), .mv (.tmp 0), none⟩),
  (1, ⟨(some 15), .lenL (.tmp 14), none⟩),
  (2, ⟨(some 16), .mv (.c (.t (.i .i64 0))), none⟩)]
abbrev f78r4 : Pc := .reg f78o4 [1, 6, 14, 15, 16] []
abbrev f78o5 : List (Nat × Pop) := [
  (0, ⟨(some 17), .bin .lss (.tmp 16) (.tmp 15), none⟩)]
abbrev f78r5 : Pc := .reg f78o5 [1, 6, 14, 15, 16, 17] []
abbrev f78o6 : List (Nat × Pop) := [
  (0, ⟨(some 18), .mv (.tmp 16), none⟩),
  (1, ⟨(some 19), .ixS 1 (.tmp 14) (.tmp 16), none⟩),
  (2, ⟨(some 20), .load false 1 (.tmp 19), none⟩),
  (3, ⟨(some 7), .mv (.tmp 18), none⟩),
  (4, ⟨(some 8), .mv (.tmp 20), none⟩)]
abbrev f78r6 : Pc := .reg f78o6 [1, 6, 7, 8, 14, 15, 16] []
abbrev f78o7 : List (Nat × Pop) := [
  (0, ⟨(some 21), .mv (.tmp 6), none⟩),
  (1, ⟨(some 22), .mv (.tmp 8), none⟩),
  (2, ⟨(some 23), .mv (.tmp 1), none⟩),
  (3, ⟨(some 24), .mv (.tmp 7), none⟩),
  (4, ⟨(some 25), .ixS 1 (.tmp 23) (.tmp 24), none⟩),
  (5, ⟨(some 26), .load false 1 (.tmp 25), none⟩),
  (6, ⟨(some 27), .call 84 [(.tmp 22), (.tmp 26)], none⟩),
  (7, ⟨(some 28), .call 82 [(.tmp 21), (.tmp 27)], none⟩),
  (8, ⟨(some 6), .mv (.tmp 28), none⟩)]
abbrev f78r7 : Pc := .reg f78o7 [1, 6, 14, 15, 16] []
abbrev f78o8 : List (Nat × Pop) := [
  (0, ⟨(some 29), .bin .add (.tmp 16) (.c (.t (.i .i64 1))), none⟩),
  (1, ⟨(some 16), .mv (.tmp 29), none⟩)]
abbrev f78r8 : Pc := .reg f78o8 [1, 6, 14, 15, 16] []
def f78l0 : Pc := (.seq f78r5 (.seq (.cond (.tmp 17) .skip (.exit 0)) (.seq (.block 1 (.seq f78r6 f78r7)) f78r8)))
theorem f78l0e (C : Cfg) (s : St) : evL C f78l0 s = evL C (.seq f78r5 (.seq (.cond (.tmp 17) .skip (.exit 0)) (.seq (.block 1 (.seq f78r6 f78r7)) f78r8))) s := rfl
abbrev f78o9 : List (Nat × Pop) := [
  (0, ⟨(some 30), .mv (.tmp 6), none⟩),
  (1, ⟨(some 4), .mv (.tmp 30), none⟩),
  (2, ⟨(some 5), .mv (.c (.t (.b true))), none⟩)]
abbrev f78r9 : Pc := .reg f78o9 [4, 5] []
abbrev f78b : Pc := (.seq f78r0 (.seq (.seq f78r1 (.cond (.tmp 13) (.seq f78r2 .ret) .skip)) (.seq f78r3 (.seq (.seq f78r4 (.block 0 (.loop f78l0))) (.seq f78r9 .ret)))))
abbrev f78 : Pfn := ⟨2, 31, [.tmp 4, .tmp 5], f78b⟩
def f78K : Array (List Nat) := #[[0, 1], [0, 1, 13], [4, 5], [0, 1, 6], [1, 6, 14, 15, 16], [1, 6, 14, 15, 16, 17], [1, 6, 7, 8, 14, 15, 16], [1, 6, 14, 15, 16], [1, 6, 14, 15, 16], [4, 5]]
def f78H : Array (List Nat) := #[[], [], [], [], [], [], [], [], [], []]
def f78A : Ann := ⟨fun r => f78K.getD r [], fun r => f78H.getD r [], fun r i => ([] : List (Nat × Nat)).contains (r, i)⟩
theorem f78C : compF Go.Proofs.Tryz.prog f78A 78 = some f78 := by kernel_rfl

/-- switchboard/vec.each -/
abbrev f79o0 : List (Nat × Pop) := [
  (0, ⟨(some 4), .nilv 3 1, none⟩)]
abbrev f79r0 : Pc := .reg f79o0 [0, 1] [4, 5, 21]
abbrev f79o1 : List (Nat × Pop) := [
  (0, ⟨(some 5), .nilv 3 1, none⟩)]
abbrev f79r1 : Pc := .reg f79o1 [0, 1, 5] []
abbrev f79o2 : List (Nat × Pop) := [
  (0, ⟨(some 8), .mv (.tmp 0), none⟩),
  (1, ⟨(some 9), .lenL (.tmp 8), none⟩),
  (2, ⟨(some 10), .mv (.c (.t (.i .i64 0))), none⟩)]
abbrev f79r2 : Pc := .reg f79o2 [1, 5, 8, 9, 10] []
abbrev f79o3 : List (Nat × Pop) := [
  (0, ⟨(some 11), .bin .lss (.tmp 10) (.tmp 9), none⟩)]
abbrev f79r3 : Pc := .reg f79o3 [1, 5, 8, 9, 10, 11] []
abbrev f79o4 : List (Nat × Pop) := [
  (0, ⟨(some 12), .mv (.tmp 10), none⟩),
  (1, ⟨(some 13), .ixS 1 (.tmp 8) (.tmp 10), none⟩),
  (2, ⟨(some 14), .load false 1 (.tmp 13), none⟩),
  (3, ⟨(some 6), .mv (.tmp 12), none⟩),
  (4, ⟨(some 7), .mv (.tmp 14), none⟩)]
abbrev f79r4 : Pc := .reg f79o4 [1, 5, 6, 7, 8, 9, 10] []
abbrev f79o5 : List (Nat × Pop) := [
  (0, ⟨(some 15), .mv (.tmp 5), none⟩),
  (1, ⟨(some 16), .mv (.tmp 1), none⟩),
  (2, ⟨(some 17), .mv (.tmp 6), none⟩),
  (3, ⟨(some 18), .mv (.tmp 7), none⟩),
  (4, ⟨(some 19), .callv (.tmp 16) [(.tmp 17), (.tmp 18)], none⟩),
  (5, ⟨(some 20), .bslT 1 [(.tmp 19)], none⟩),
  (6, ⟨(some 21), .app 3 1 8 (.tmp 15) (.tmp 20), none⟩),
  (7, ⟨(some 5), .mv (.tmp 21), none⟩)]
abbrev f79r5 : Pc := .reg f79o5 [1, 5, 8, 9, 10] []
abbrev f79o6 : List (Nat × Pop) := [
  (0, ⟨(some 22), .bin .add (.tmp 10) (.c (.t (.i .i64 1))), none⟩),
  (1, ⟨(some 10), .mv (.tmp 22), none⟩)]
abbrev f79r6 : Pc := .reg f79o6 [1, 5, 8, 9, 10] []
def f79l0 : Pc := (.seq f79r3 (.seq (.cond (.tmp 11) .skip (.exit 0)) (.seq (.block 1 (.seq f79r4 f79r5)) f79r6)))
theorem f79l0e (C : Cfg) (s : St) : evL C f79l0 s = evL C (.seq f79r3 (.seq (.cond (.tmp 11) .skip (.exit 0)) (.seq (.block 1 (.seq f79r4 f79r5)) f79r6))) s := rfl
abbrev f79o7 : List (Nat × Pop) := [
  (0, ⟨(some 23), .mv (.tmp 5), none⟩),
  (1, ⟨(some 4), .mv (.tmp 23), none⟩)]
abbrev f79r7 : Pc := .reg f79o7 [4] []
abbrev f79b : Pc := (.seq f79r0 (.seq f79r1 (.seq (.seq f79r2 (.block 0 (.loop f79l0))) (.seq f79r7 .ret))))
abbrev f79 : Pfn := ⟨2, 24, [.tmp 4], f79b⟩
def f79K : Array (List Nat) := #[[0, 1], [0, 1, 5], [1, 5, 8, 9, 10], [1, 5, 8, 9, 10, 11], [1, 5, 6, 7, 8, 9, 10], [1, 5, 8, 9, 10], [1, 5, 8, 9, 10], [4]]
def f79H : Array (List Nat) := #[[4, 5, 21], [], [], [], [], [], [], []]
def f79A : Ann := ⟨fun r => f79K.getD r [], fun r => f79H.getD r [], fun r i => ([] : List (Nat × Nat)).contains (r, i)⟩
theorem f79C : compF Go.Proofs.Tryz.prog f79A 79 = some f79 := by kernel_rfl

/-- switchboard/vec.Relu$1 -/
abbrev f80o0 : List (Nat × Pop) := [
  (0, ⟨(some 4), .mv (.c (.t (.i .i64 0))), none⟩)]
abbrev f80r0 : Pc := .reg f80o0 [1] []
abbrev f80o1 : List (Nat × Pop) := [
  (0, ⟨(some 5), .mv (.tmp 1), none⟩),
  (1, ⟨(some 6), .call 55 [(.tmp 5)], none⟩),
  (2, ⟨(some 7), .mm true [(.tmp 6), (.c (.t (.i .i64 0)))], none⟩),
  (3, ⟨(some 4), .mv (.tmp 7), none⟩)]
abbrev f80r1 : Pc := .reg f80o1 [4] []
abbrev f80b : Pc := (.seq f80r0 (.seq f80r1 .ret))
abbrev f80 : Pfn := ⟨2, 8, [.tmp 4], f80b⟩
def f80K : Array (List Nat) := #[[1], [4]]
def f80H : Array (List Nat) := #[[], []]
def f80A : Ann := ⟨fun r => f80K.getD r [], fun r => f80H.getD r [], fun r i => ([] : List (Nat × Nat)).contains (r, i)⟩
theorem f80C : compF Go.Proofs.Tryz.prog f80A 80 = some f80 := by kernel_rfl

/-- switchboard/vec.Add$1 -/
abbrev f81o0 : List (Nat × Pop) := [
  (0, ⟨(some 5), .mv (.c (.t (.i .i64 0))), none⟩)]
abbrev f81r0 : Pc := .reg f81o0 [0, 1, 2] []
abbrev f81o1 : List (Nat × Pop) := [
  (0, ⟨(some 6), .mv (.tmp 1), none⟩),
  (1, ⟨(some 7), .load false 1 (.tmp 2), none⟩),
  (2, ⟨(some 8), .mv (.tmp 0), none⟩),
  (3, ⟨(some 9), .ixS 1 (.tmp 7) (.tmp 8), none⟩),
  (4, ⟨(some 10), .load false 1 (.tmp 9), none⟩),
  (5, ⟨(some 11), .call 82 [(.tmp 6), (.tmp 10)], none⟩),
  (6, ⟨(some 5), .mv (.tmp 11), none⟩)]
abbrev f81r1 : Pc := .reg f81o1 [5] []
abbrev f81b : Pc := (.seq f81r0 (.seq f81r1 .ret))
abbrev f81 : Pfn := ⟨3, 12, [.tmp 5], f81b⟩
def f81K : Array (List Nat) := #[[0, 1, 2], [5]]
def f81H : Array (List Nat) := #[[], []]
def f81A : Ann := ⟨fun r => f81K.getD r [], fun r => f81H.getD r [], fun r i => ([] : List (Nat × Nat)).contains (r, i)⟩
theorem f81C : compF Go.Proofs.Tryz.prog f81A 81 = some f81 := by kernel_rfl

/-- switchboard/fix.Add -/
abbrev f82o0 : List (Nat × Pop) := [
  (0, ⟨(some 4), .mv (.c (.t (.i .i64 0))), none⟩)]
abbrev f82r0 : Pc := .reg f82o0 [0, 1] []
abbrev f82o1 : List (Nat × Pop) := [
  (0, ⟨(some 5), .mv (.tmp 0), none⟩),
  (1, ⟨(some 6), .call 55 [(.tmp 5)], none⟩),
  (2, ⟨(some 7), .mv (.tmp 1), none⟩),
  (3, ⟨(some 8), .call 55 [(.tmp 7)], none⟩),
  (4, ⟨(some 9), .bin .add (.tmp 6) (.tmp 8), none⟩),
  (5, ⟨(some 10), .call 55 [(.tmp 9)], none⟩),
  (6, ⟨(some 4), .mv (.tmp 10), none⟩)]
abbrev f82r1 : Pc := .reg f82o1 [4] []
abbrev f82b : Pc := (.seq f82r0 (.seq f82r1 .ret))
abbrev f82 : Pfn := ⟨2, 11, [.tmp 4], f82b⟩
def f82K : Array (List Nat) := #[[0, 1], [4]]
def f82H : Array (List Nat) := #[[], []]
def f82A : Ann := ⟨fun r => f82K.getD r [], fun r => f82H.getD r [], fun r i => ([] : List (Nat × Nat)).contains (r, i)⟩
theorem f82C : compF Go.Proofs.Tryz.prog f82A 82 = some f82 := by kernel_rfl

/-- switchboard/vec.Scale$1 -/
abbrev f83o0 : List (Nat × Pop) := [
  (0, ⟨(some 5), .mv (.c (.t (.i .i64 0))), none⟩)]
abbrev f83r0 : Pc := .reg f83o0 [1, 2] []
abbrev f83o1 : List (Nat × Pop) := [
  (0, ⟨(some 6), .mv (.tmp 1), none⟩),
  (1, ⟨(some 7), .load false 1 (.tmp 2), none⟩),
  (2, ⟨(some 8), .call 84 [(.tmp 6), (.tmp 7)], none⟩),
  (3, ⟨(some 5), .mv (.tmp 8), none⟩)]
abbrev f83r1 : Pc := .reg f83o1 [5] []
abbrev f83b : Pc := (.seq f83r0 (.seq f83r1 .ret))
abbrev f83 : Pfn := ⟨3, 9, [.tmp 5], f83b⟩
def f83K : Array (List Nat) := #[[1, 2], [5]]
def f83H : Array (List Nat) := #[[], []]
def f83A : Ann := ⟨fun r => f83K.getD r [], fun r => f83H.getD r [], fun r i => ([] : List (Nat × Nat)).contains (r, i)⟩
theorem f83C : compF Go.Proofs.Tryz.prog f83A 83 = some f83 := by kernel_rfl

/-- switchboard/fix.Mul -/
abbrev f84o0 : List (Nat × Pop) := [
  (0, ⟨(some 4), .mv (.c (.t (.i .i64 0))), none⟩)]
abbrev f84r0 : Pc := .reg f84o0 [0, 1] []
abbrev f84o1 : List (Nat × Pop) := [
  (0, ⟨(some 5), .mv (.tmp 0), none⟩),
  (1, ⟨(some 6), .call 55 [(.tmp 5)], none⟩),
  (2, ⟨(some 7), .mv (.tmp 1), none⟩),
  (3, ⟨(some 8), .call 55 [(.tmp 7)], none⟩),
  (4, ⟨(some 9), .bin .mul (.tmp 6) (.tmp 8), none⟩),
  (5, ⟨(some 10), .bin .quo (.tmp 9) (.c (.t (.i .i64 65536))), none⟩),
  (6, ⟨(some 11), .call 55 [(.tmp 10)], none⟩),
  (7, ⟨(some 4), .mv (.tmp 11), none⟩)]
abbrev f84r1 : Pc := .reg f84o1 [4] []
abbrev f84b : Pc := (.seq f84r0 (.seq f84r1 .ret))
abbrev f84 : Pfn := ⟨2, 12, [.tmp 4], f84b⟩
def f84K : Array (List Nat) := #[[0, 1], [4]]
def f84H : Array (List Nat) := #[[], []]
def f84A : Ann := ⟨fun r => f84K.getD r [], fun r => f84H.getD r [], fun r i => ([] : List (Nat × Nat)).contains (r, i)⟩
theorem f84C : compF Go.Proofs.Tryz.prog f84A 84 = some f84 := by kernel_rfl

/-- slices.IndexFunc[[]switchboard/api.Expert,switchboard/api.Expert] -/
abbrev f97o0 : List (Nat × Pop) := [
  (0, ⟨(some 4), .mv (.c (.t (.i .i64 0))), none⟩)]
abbrev f97r0 : Pc := .reg f97o0 [0, 1] []
abbrev f97o1 : List (Nat × Pop) := [
  (0, ⟨(some 6), .mv (.tmp 0), none⟩),
  (1, ⟨(some 7), .lenL (.tmp 6), none⟩),
  (2, ⟨(some 8), .mv (.c (.t (.i .i64 0))), none⟩)]
abbrev f97r1 : Pc := .reg f97o1 [0, 1, 7, 8] []
abbrev f97o2 : List (Nat × Pop) := [
  (0, ⟨(some 9), .bin .lss (.tmp 8) (.tmp 7), none⟩)]
abbrev f97r2 : Pc := .reg f97o2 [0, 1, 7, 8, 9] []
abbrev f97o3 : List (Nat × Pop) := [
  (0, ⟨(some 10), .mv (.tmp 8), none⟩),
  (1, ⟨(some 5), .mv (.tmp 10), none⟩)]
abbrev f97r3 : Pc := .reg f97o3 [0, 1, 5, 7, 8] []
abbrev f97o4 : List (Nat × Pop) := [
  (0, ⟨(some 11), .mv (.tmp 1), none⟩),
  (1, ⟨(some 12), .mv (.tmp 0), none⟩),
  (2, ⟨(some 13), .mv (.tmp 5), none⟩),
  (3, ⟨(some 14), .ixS 2 (.tmp 12) (.tmp 13), none⟩),
  (4, ⟨(some 15), .load true 2 (.tmp 14), none⟩),
  (5, ⟨(some 16), .callv (.tmp 11) [(.tmp 15)], none⟩)]
abbrev f97r4 : Pc := .reg f97o4 [0, 1, 5, 7, 8, 16] []
abbrev f97o5 : List (Nat × Pop) := [
  (0, ⟨(some 17), .mv (.tmp 5), none⟩),
  (1, ⟨(some 4), .mv (.tmp 17), none⟩)]
abbrev f97r5 : Pc := .reg f97o5 [4] []
abbrev f97o6 : List (Nat × Pop) := [
  (0, ⟨(some 18), .bin .add (.tmp 8) (.c (.t (.i .i64 1))), none⟩),
  (1, ⟨(some 8), .mv (.tmp 18), none⟩)]
abbrev f97r6 : Pc := .reg f97o6 [0, 1, 7, 8] []
def f97l0 : Pc := (.seq f97r2 (.seq (.cond (.tmp 9) .skip (.exit 0)) (.seq (.block 1 (.seq f97r3 (.seq f97r4 (.cond (.tmp 16) (.seq f97r5 .ret) .skip)))) f97r6)))
theorem f97l0e (C : Cfg) (s : St) : evL C f97l0 s = evL C (.seq f97r2 (.seq (.cond (.tmp 9) .skip (.exit 0)) (.seq (.block 1 (.seq f97r3 (.seq f97r4 (.cond (.tmp 16) (.seq f97r5 .ret) .skip)))) f97r6))) s := rfl
abbrev f97o7 : List (Nat × Pop) := [
  (0, ⟨(some 4), .mv (.c (.t (.i .i64 (-1)))), none⟩)]
abbrev f97r7 : Pc := .reg f97o7 [4] []
abbrev f97b : Pc := (.seq f97r0 (.seq (.seq f97r1 (.block 0 (.loop f97l0))) (.seq f97r7 .ret)))
abbrev f97 : Pfn := ⟨2, 19, [.tmp 4], f97b⟩
def f97K : Array (List Nat) := #[[0, 1], [0, 1, 7, 8], [0, 1, 7, 8, 9], [0, 1, 5, 7, 8], [0, 1, 5, 7, 8, 16], [4], [0, 1, 7, 8], [4]]
def f97H : Array (List Nat) := #[[], [], [], [], [], [], [], []]
def f97A : Ann := ⟨fun r => f97K.getD r [], fun r => f97H.getD r [], fun r i => ([] : List (Nat × Nat)).contains (r, i)⟩
theorem f97C : compF Go.Proofs.Tryz.prog f97A 97 = some f97 := by kernel_rfl

/-- switchboard/top.Best -/
abbrev f98o0 : List (Nat × Pop) := [
  (0, ⟨(some 2), .mv (.c (.t (.i .i64 0))), none⟩)]
abbrev f98r0 : Pc := .reg f98o0 [0] []
abbrev f98o1 : List (Nat × Pop) := [
  (0, ⟨(some 3), .mv (.tmp 0), none⟩),
  (1, ⟨(some 4), .call 99 [(.tmp 3), (.c (.t (.i .i64 (-1))))], none⟩),
  (2, ⟨(some 2), .mv (.tmp 4), none⟩)]
abbrev f98r1 : Pc := .reg f98o1 [2] []
abbrev f98b : Pc := (.seq f98r0 (.seq f98r1 .ret))
abbrev f98 : Pfn := ⟨1, 5, [.tmp 2], f98b⟩
def f98K : Array (List Nat) := #[[0], [2]]
def f98H : Array (List Nat) := #[[], []]
def f98A : Ann := ⟨fun r => f98K.getD r [], fun r => f98H.getD r [], fun r i => ([] : List (Nat × Nat)).contains (r, i)⟩
theorem f98C : compF Go.Proofs.Tryz.prog f98A 98 = some f98 := by kernel_rfl

/-- switchboard/top.beside -/
abbrev f99o0 : List (Nat × Pop) := [
  (0, ⟨(some 4), .mv (.c (.t (.i .i64 0))), none⟩)]
abbrev f99r0 : Pc := .reg f99o0 [0, 1] []
abbrev f99o1 : List (Nat × Pop) := [
  (0, ⟨(some 5), .mv (.c (.t (.i .i64 (-1)))), none⟩)]
abbrev f99r1 : Pc := .reg f99o1 [0, 1, 5] []
abbrev f99o2 : List (Nat × Pop) := [
  (0, ⟨(some 8), .mv (.tmp 0), none⟩),
  (1, ⟨(some 9), .lenL (.tmp 8), none⟩),
  (2, ⟨(some 10), .mv (.c (.t (.i .i64 0))), none⟩)]
abbrev f99r2 : Pc := .reg f99o2 [0, 1, 5, 8, 9, 10] []
abbrev f99o3 : List (Nat × Pop) := [
  (0, ⟨(some 11), .bin .lss (.tmp 10) (.tmp 9), none⟩)]
abbrev f99r3 : Pc := .reg f99o3 [0, 1, 5, 8, 9, 10, 11] []
abbrev f99o4 : List (Nat × Pop) := [
  (0, ⟨(some 12), .mv (.tmp 10), none⟩),
  (1, ⟨(some 13), .ixS 1 (.tmp 8) (.tmp 10), none⟩),
  (2, ⟨(some 14), .load false 1 (.tmp 13), none⟩),
  (3, ⟨(some 6), .mv (.tmp 12), none⟩),
  (4, ⟨(some 7), .mv (.tmp 14), none⟩)]
abbrev f99r4 : Pc := .reg f99o4 [0, 1, 5, 6, 7, 8, 9, 10] []
abbrev f99o5 : List (Nat × Pop) := [
  (0, ⟨(some 15), .mv (.tmp 6), none⟩),
  (1, ⟨(some 16), .mv (.tmp 1), none⟩),
  (2, ⟨(some 17), .bin .neq (.tmp 15) (.tmp 16), none⟩),
  (3, ⟨(some 18), .mv (.tmp 17), none⟩),
  (4, ⟨(some 19), .mv (.tmp 5), (some (18, true))⟩),
  (5, ⟨(some 20), .bin .lss (.tmp 19) (.c (.t (.i .i64 0))), (some (18, true))⟩),
  (6, ⟨(some 21), .mv (.tmp 20), (some (18, true))⟩),
  (7, ⟨(some 22), .mv (.tmp 7), (some (21, false))⟩),
  (8, ⟨(some 23), .mv (.tmp 0), (some (21, false))⟩),
  (9, ⟨(some 24), .mv (.tmp 5), (some (21, false))⟩),
  (10, ⟨(some 25), .ixS 1 (.tmp 23) (.tmp 24), (some (21, false))⟩),
  (11, ⟨(some 26), .load false 1 (.tmp 25), (some (21, false))⟩),
  (12, ⟨(some 27), .bin .gtr (.tmp 22) (.tmp 26), (some (21, false))⟩),
  (13, ⟨(some 28), .pick (.tmp 21) (.c (.t (.b true))) (.tmp 27), (some (18, true))⟩),
  (14, ⟨(some 29), .pick (.tmp 18) (.tmp 28) (.c (.t (.b false))), none⟩)]
abbrev f99r5 : Pc := .reg f99o5 [0, 1, 5, 6, 8, 9, 10, 29] []
abbrev f99o6 : List (Nat × Pop) := [
  (0, ⟨(some 30), .mv (.tmp 6), none⟩),
  (1, ⟨(some 5), .mv (.tmp 30), none⟩)]
abbrev f99r6 : Pc := .reg f99o6 [0, 1, 5, 8, 9, 10] []
abbrev f99o7 : List (Nat × Pop) := [
  (0, ⟨(some 31), .bin .add (.tmp 10) (.c (.t (.i .i64 1))), none⟩),
  (1, ⟨(some 10), .mv (.tmp 31), none⟩)]
abbrev f99r7 : Pc := .reg f99o7 [0, 1, 5, 8, 9, 10] []
def f99l0 : Pc := (.seq f99r3 (.seq (.cond (.tmp 11) .skip (.exit 0)) (.seq (.block 1 (.seq f99r4 (.seq f99r5 (.cond (.tmp 29) f99r6 .skip)))) f99r7)))
theorem f99l0e (C : Cfg) (s : St) : evL C f99l0 s = evL C (.seq f99r3 (.seq (.cond (.tmp 11) .skip (.exit 0)) (.seq (.block 1 (.seq f99r4 (.seq f99r5 (.cond (.tmp 29) f99r6 .skip)))) f99r7))) s := rfl
abbrev f99o8 : List (Nat × Pop) := [
  (0, ⟨(some 32), .mv (.tmp 5), none⟩),
  (1, ⟨(some 4), .mv (.tmp 32), none⟩)]
abbrev f99r8 : Pc := .reg f99o8 [4] []
abbrev f99b : Pc := (.seq f99r0 (.seq f99r1 (.seq (.seq f99r2 (.block 0 (.loop f99l0))) (.seq f99r8 .ret))))
abbrev f99 : Pfn := ⟨2, 33, [.tmp 4], f99b⟩
def f99K : Array (List Nat) := #[[0, 1], [0, 1, 5], [0, 1, 5, 8, 9, 10], [0, 1, 5, 8, 9, 10, 11], [0, 1, 5, 6, 7, 8, 9, 10], [0, 1, 5, 6, 8, 9, 10, 29], [0, 1, 5, 8, 9, 10], [0, 1, 5, 8, 9, 10], [4]]
def f99H : Array (List Nat) := #[[], [], [], [], [], [], [], [], []]
def f99A : Ann := ⟨fun r => f99K.getD r [], fun r => f99H.getD r [], fun r i => ([] : List (Nat × Nat)).contains (r, i)⟩
theorem f99C : compF Go.Proofs.Tryz.prog f99A 99 = some f99 := by kernel_rfl


end Go.Proofs.YtccnadleegcobaaGreat.Pv
