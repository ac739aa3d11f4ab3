/- A part of what the law leans on: the abstract machine, the contracts, the rows. -/
import Derived.Test.YtdjanabcicdmlaaK5
/- Functions of the program (package carcanetref03) as code of the abstract machine: written by a program of this session out of the elaborated operations. -/
namespace Go.Ai.G
set_option maxRecDepth 100000
set_option linter.unusedVariables false
/-! 2: carcanet/carcanetref03.Normal: 0:n 1:l 2: 3: 4:up 5:i 6:a 7:b 8:lo 9:g 10:a 11:row 12:i 13: 14: 15: 16: 17: 18: 19: 20: -/
def r2_0 (φ : Nat → Nat) : List AOper := [
  ⟨0, .N (.alloc [.int .i64 0, .nils]), [], none, 0⟩,
  ⟨1, .N .mv, [.c (.int .i64 0)], none, 0⟩]
def r2_1 (φ : Nat → Nat) : List AOper := [
  ⟨0, .N .mv, [.n 0], none, 0⟩,
  ⟨1, .N (.bin .lss), [.l 0, .c (.int .i64 0)], none, 0⟩]
def r2_2 (φ : Nat → Nat) : List AOper := [
  ⟨0, .N (.build [.int .i64 0, .nils] []), [], none, 0⟩,
  ⟨1, .X (.store 2), [.n 2, .l 0], none, 0⟩,
  ⟨2, .N .mv, [.c (.int .i64 1)], none, 0⟩]
def r2_3 (φ : Nat → Nat) : List AOper := [
  ⟨0, .N .mv, [.n 0], none, 0⟩,
  ⟨1, .N (.bin .gtr), [.l 0, .c (.int .i64 1000)], none, 0⟩]
def r2_4 (φ : Nat → Nat) : List AOper := [
  ⟨0, .N (.build [.int .i64 0, .nils] []), [], none, 0⟩,
  ⟨1, .X (.store 2), [.n 2, .l 0], none, 0⟩,
  ⟨2, .N .mv, [.c (.int .i64 5)], none, 0⟩]
def r2_5 (φ : Nat → Nat) : List AOper := [
  ⟨0, .N .mv, [.n 0], none, 0⟩,
  ⟨1, .N (.mksl [.nils] 1 24), [.l 0, .l 0], none, 0⟩,
  ⟨2, .N .mv, [.l 0], none, 0⟩]
def r2_6 (φ : Nat → Nat) : List AOper := [
  ⟨0, .N .mv, [.c (.int .i64 0)], none, 0⟩]
def r2_7 (φ : Nat → Nat) : List AOper := [
  ⟨0, .N .mv, [.n 5], none, 0⟩,
  ⟨1, .N .mv, [.n 1], none, 0⟩,
  ⟨2, .N .lenS, [.l 0], none, 0⟩,
  ⟨3, .N (.bin .lss), [.l 2, .l 0], none, 0⟩]
def r2_8 (φ : Nat → Nat) : List AOper := [
  ⟨0, .N .mv, [.n 1], none, 0⟩,
  ⟨1, .N .mv, [.n 5], none, 0⟩,
  ⟨2, .N (.idx 2), [.l 1, .l 0], none, 0⟩,
  ⟨3, .N (.fadd 0), [.l 0], none, 0⟩,
  ⟨4, .N .load1, [.l 0], none, 0⟩,
  ⟨5, .N .mv, [.l 0], none, 0⟩]
def r2_9 (φ : Nat → Nat) : List AOper := [
  ⟨0, .N .mv, [.n 1], none, 0⟩,
  ⟨1, .N .mv, [.n 5], none, 0⟩,
  ⟨2, .N (.idx 2), [.l 1, .l 0], none, 0⟩,
  ⟨3, .N (.fadd 1), [.l 0], none, 0⟩,
  ⟨4, .N .load1, [.l 0], none, 0⟩,
  ⟨5, .N .mv, [.l 0], none, 0⟩]
def r2_10 (φ : Nat → Nat) : List AOper := [
  ⟨0, .N .mv, [.n 6], none, 0⟩,
  ⟨1, .N (.bin .lss), [.l 0, .c (.int .i64 0)], none, 0⟩,
  ⟨2, .N .mv, [.l 0], none, 0⟩,
  ⟨3, .N .mv, [.n 7], some (.l 0, false), 0⟩,
  ⟨4, .N (.bin .lss), [.l 0, .c (.int .i64 0)], some (.l 1, false), 0⟩,
  ⟨5, .N .pick, [.l 2, .c (.bool true), .l 0], none, 0⟩,
  ⟨6, .N .mv, [.l 0], none, 0⟩,
  ⟨7, .N .mv, [.n 6], some (.l 0, false), 0⟩,
  ⟨8, .N .mv, [.n 0], some (.l 1, false), 0⟩,
  ⟨9, .N (.bin .geq), [.l 1, .l 0], some (.l 2, false), 0⟩,
  ⟨10, .N .pick, [.l 3, .c (.bool true), .l 0], none, 0⟩,
  ⟨11, .N .mv, [.l 0], none, 0⟩,
  ⟨12, .N .mv, [.n 7], some (.l 0, false), 0⟩,
  ⟨13, .N .mv, [.n 0], some (.l 1, false), 0⟩,
  ⟨14, .N (.bin .geq), [.l 1, .l 0], some (.l 2, false), 0⟩,
  ⟨15, .N .pick, [.l 3, .c (.bool true), .l 0], none, 0⟩]
def r2_11 (φ : Nat → Nat) : List AOper := [
  ⟨0, .N (.build [.int .i64 0, .nils] []), [], none, 0⟩,
  ⟨1, .X (.store 2), [.n 2, .l 0], none, 0⟩,
  ⟨2, .N .mv, [.c (.int .i64 4)], none, 0⟩]
def r2_12 (φ : Nat → Nat) : List AOper := [
  ⟨0, .N .mv, [.n 6], none, 0⟩,
  ⟨1, .N .mv, [.n 7], none, 0⟩,
  ⟨2, .N .min, [.l 1, .l 0], none, 0⟩,
  ⟨3, .N .mv, [.l 0], none, 0⟩]
def r2_13 (φ : Nat → Nat) : List AOper := [
  ⟨0, .N .mv, [.n 6], none, 0⟩,
  ⟨1, .N .mv, [.n 7], none, 0⟩,
  ⟨2, .N (.bin .neq), [.l 1, .l 0], none, 0⟩,
  ⟨3, .N .mv, [.l 0], none, 0⟩,
  ⟨4, .N .mv, [.n 4], some (.l 0, true), 0⟩,
  ⟨5, .N .mv, [.n 8], some (.l 1, true), 0⟩,
  ⟨6, .N (.idx 1), [.l 1, .l 0], some (.l 2, true), 0⟩,
  ⟨7, .N .load1, [.l 0], some (.l 3, true), 0⟩,
  ⟨8, .N .mv, [.n 6], some (.l 4, true), 0⟩,
  ⟨9, .N .mv, [.n 7], some (.l 5, true), 0⟩,
  ⟨10, .N .max, [.l 1, .l 0], some (.l 6, true), 0⟩,
  ⟨11, .calli true (φ 25), [.l 3, .l 0], some (.l 7, true), 0⟩,
  ⟨12, .N (.un .not), [.l 0], some (.l 8, true), 0⟩,
  ⟨13, .N .pick, [.l 9, .l 0, .c (.bool false)], none, 0⟩]
def r2_14 (φ : Nat → Nat) : List AOper := [
  ⟨0, .N .mv, [.n 4], none, 0⟩,
  ⟨1, .N .mv, [.n 8], none, 0⟩,
  ⟨2, .N .mv, [.n 4], none, 0⟩,
  ⟨3, .N .mv, [.n 8], none, 0⟩,
  ⟨4, .N (.idx 1), [.l 1, .l 0], none, 0⟩,
  ⟨5, .N .load1, [.l 0], none, 0⟩,
  ⟨6, .N .mv, [.n 6], none, 0⟩,
  ⟨7, .N .mv, [.n 7], none, 0⟩,
  ⟨8, .N .max, [.l 1, .l 0], none, 0⟩,
  ⟨9, .N (.bsl [.int .i64 0] 1 1 [(0, 1)]), [.l 0], none, 0⟩,
  ⟨10, .X (.app 1 8), [.l 4, .l 0], none, 0⟩,
  ⟨11, .N (.idx 1), [.l 10, .l 9], none, 0⟩,
  ⟨12, .X (.store 1), [.l 0, .l 1], none, 0⟩]
def r2_15 (φ : Nat → Nat) : List AOper := [
  ⟨0, .N .mv, [.n 5], none, 0⟩,
  ⟨1, .N (.bin .add), [.l 0, .c (.int .i64 1)], none, 0⟩,
  ⟨2, .N .mv, [.l 0], none, 0⟩]
def l2_16 (φ : Nat → Nat) : ACode := .seq (.seq (.reg false (r2_7 φ) [(15, 0)]) (.cond (.n 15) (.skip) (.exit 0))) (.seq (.block 1 (.seq (.reg false (r2_8 φ) [(6, 0)]) (.seq (.reg false (r2_9 φ) [(7, 0)]) (.seq (.seq (.reg false (r2_10 φ) [(16, 0)]) (.cond (.n 16) (.seq (.reg false (r2_11 φ) [(3, 0)]) (.ret)) (.skip))) (.seq (.reg false (r2_12 φ) [(8, 0)]) (.seq (.reg false (r2_13 φ) [(17, 0)]) (.cond (.n 17) (.reg false (r2_14 φ) []) (.skip)))))))) (.reg false (r2_15 φ) [(5, 0)]))
def r2_17 (φ : Nat → Nat) : List AOper := [
  ⟨0, .N .mv, [.n 0], none, 0⟩,
  ⟨1, .N (.build [.int .i64 0, .nils] [(0, 1)]), [.l 0], none, 0⟩,
  ⟨2, .N (.alloc [.int .i64 0, .nils]), [], none, 0⟩,
  ⟨3, .X (.store 2), [.l 0, .l 1], none, 0⟩]
def r2_18 (φ : Nat → Nat) : List AOper := [
  ⟨0, .N .mv, [.c (.int .i64 0)], none, 0⟩]
def r2_19 (φ : Nat → Nat) : List AOper := [
  ⟨0, .N .mv, [.n 10], none, 0⟩,
  ⟨1, .N .mv, [.n 0], none, 0⟩,
  ⟨2, .N (.bin .lss), [.l 1, .l 0], none, 0⟩]
def r2_20 (φ : Nat → Nat) : List AOper := [
  ⟨0, .N .mv, [.n 4], none, 0⟩,
  ⟨1, .N .mv, [.n 10], none, 0⟩,
  ⟨2, .N (.idx 1), [.l 1, .l 0], none, 0⟩,
  ⟨3, .N .load1, [.l 0], none, 0⟩,
  ⟨4, .calli false (φ 30), [.l 0], none, 0⟩,
  ⟨5, .N .mv, [.l 0], none, 0⟩]
def r2_21 (φ : Nat → Nat) : List AOper := [
  ⟨0, .N .mv, [.c (.int .i64 0)], none, 0⟩]
def r2_22 (φ : Nat → Nat) : List AOper := [
  ⟨0, .N .mv, [.n 12], none, 0⟩,
  ⟨1, .N .mv, [.n 11], none, 0⟩,
  ⟨2, .N .lenS, [.l 0], none, 0⟩,
  ⟨3, .N (.bin .lss), [.l 2, .l 0], none, 0⟩]
def r2_23 (φ : Nat → Nat) : List AOper := [
  ⟨0, .N (.fadd 1), [.n 9], none, 0⟩,
  ⟨1, .N .load1, [.l 0], none, 1⟩,
  ⟨2, .N .mv, [.n 10], none, 0⟩,
  ⟨3, .N .mv, [.n 11], none, 0⟩,
  ⟨4, .N .mv, [.n 12], none, 0⟩,
  ⟨5, .N (.idx 1), [.l 1, .l 0], none, 24⟩,
  ⟨6, .N .load1, [.l 0], none, 56⟩,
  ⟨7, .N (.build [.int .i64 0, .int .i64 0] [(0, 1), (1, 1)]), [.l 4, .l 0], none, 124⟩,
  ⟨8, .N (.bsl [.int .i64 0, .int .i64 0] 1 2 [(0, 2)]), [.l 0], none, 252⟩,
  ⟨9, .X (.app 2 16), [.l 7, .l 0], none, 511⟩,
  ⟨10, .N (.fadd 1), [.n 9], none, 1023⟩,
  ⟨11, .X (.store 1), [.l 0, .l 1], none, 2047⟩]
def r2_24 (φ : Nat → Nat) : List AOper := [
  ⟨0, .N .mv, [.n 12], none, 0⟩,
  ⟨1, .N (.bin .add), [.l 0, .c (.int .i64 1)], none, 0⟩,
  ⟨2, .N .mv, [.l 0], none, 0⟩]
def l2_25 (φ : Nat → Nat) : ACode := .seq (.seq (.reg false (r2_22 φ) [(19, 0)]) (.cond (.n 19) (.skip) (.exit 4))) (.seq (.block 5 (.reg true (r2_23 φ) [])) (.reg false (r2_24 φ) [(12, 0)]))
def r2_26 (φ : Nat → Nat) : List AOper := [
  ⟨0, .N .mv, [.n 10], none, 0⟩,
  ⟨1, .N (.bin .add), [.l 0, .c (.int .i64 1)], none, 0⟩,
  ⟨2, .N .mv, [.l 0], none, 0⟩]
def l2_27 (φ : Nat → Nat) : ACode := .seq (.seq (.reg false (r2_19 φ) [(18, 0)]) (.cond (.n 18) (.skip) (.exit 2))) (.seq (.block 3 (.seq (.reg false (r2_20 φ) [(11, 0)]) (.seq (.reg false (r2_21 φ) [(12, 0)]) (.block 4 (.loop (l2_25 φ)))))) (.reg false (r2_26 φ) [(10, 0)]))
def r2_28 (φ : Nat → Nat) : List AOper := [
  ⟨0, .N (.fadd 1), [.n 9], none, 0⟩,
  ⟨1, .N .load1, [.l 0], none, 0⟩,
  ⟨2, .N .lenS, [.l 0], none, 0⟩,
  ⟨3, .N (.bin .gtr), [.l 0, .c (.int .i64 4000)], none, 0⟩]
def r2_29 (φ : Nat → Nat) : List AOper := [
  ⟨0, .N (.build [.int .i64 0, .nils] []), [], none, 0⟩,
  ⟨1, .X (.store 2), [.n 2, .l 0], none, 0⟩,
  ⟨2, .N .mv, [.c (.int .i64 5)], none, 0⟩]
def r2_30 (φ : Nat → Nat) : List AOper := [
  ⟨0, .N (.loadN 2), [.n 9], none, 0⟩,
  ⟨1, .X (.store 2), [.n 2, .l 0], none, 0⟩,
  ⟨2, .N .mv, [.c (.int .i64 0)], none, 0⟩]
def b2 (φ : Nat → Nat) : ACode := .seq (.reg false (r2_0 φ) [(2, 1), (3, 0)]) (.seq (.seq (.reg false (r2_1 φ) [(13, 0)]) (.cond (.n 13) (.seq (.reg false (r2_2 φ) [(3, 0)]) (.ret)) (.skip))) (.seq (.seq (.reg false (r2_3 φ) [(14, 0)]) (.cond (.n 14) (.seq (.reg false (r2_4 φ) [(3, 0)]) (.ret)) (.skip))) (.seq (.reg false (r2_5 φ) [(4, 0)]) (.seq (.seq (.reg false (r2_6 φ) [(5, 0)]) (.block 0 (.loop (l2_16 φ)))) (.seq (.reg false (r2_17 φ) [(9, 1)]) (.seq (.seq (.reg false (r2_18 φ) [(10, 0)]) (.block 2 (.loop (l2_27 φ)))) (.seq (.seq (.reg false (r2_28 φ) [(20, 0)]) (.cond (.n 20) (.seq (.reg false (r2_29 φ) [(3, 0)]) (.ret)) (.skip))) (.seq (.reg false (r2_30 φ) [(3, 0)]) (.ret)))))))))
def f2 (φ : Nat → Nat) : AFn := ⟨2, [0, 1, 4, 5, 6, 7, 8, 9, 10, 11, 12, 13, 14, 16, 19, 26, 54, 72, 89, 100, 117], 120, b2 φ, [.cell 2 (some 2), .t 3]⟩
/-! 3: carcanet/carcanetref03.SameGraph: 0:a 1:b 2:a 3:b 4: -/
def r3_0 (φ : Nat → Nat) : List AOper := [
  ⟨0, .N .box, [.n 0], none, 0⟩,
  ⟨1, .N .box, [.n 1], none, 0⟩,
  ⟨2, .N .mv, [.c (.bool false)], none, 0⟩]
def r3_1 (φ : Nat → Nat) : List AOper := [
  ⟨0, .N (.fadd 0), [.n 2], none, 0⟩,
  ⟨1, .N .load1, [.l 0], none, 0⟩,
  ⟨2, .N (.fadd 0), [.n 3], none, 0⟩,
  ⟨3, .N .load1, [.l 0], none, 0⟩,
  ⟨4, .N (.bin .eql), [.l 2, .l 0], none, 0⟩,
  ⟨5, .N .mv, [.l 0], none, 0⟩,
  ⟨6, .N (.fadd 1), [.n 2], some (.l 0, true), 0⟩,
  ⟨7, .N .load1, [.l 0], some (.l 1, true), 0⟩,
  ⟨8, .N (.fadd 1), [.n 3], some (.l 2, true), 0⟩,
  ⟨9, .N .load1, [.l 0], some (.l 3, true), 0⟩,
  ⟨10, .calli true (φ 23), [.l 2, .l 0], some (.l 4, true), 0⟩,
  ⟨11, .N .pick, [.l 5, .l 0, .c (.bool false)], none, 0⟩,
  ⟨12, .N .mv, [.l 0], none, 0⟩]
def b3 (φ : Nat → Nat) : ACode := .seq (.reg false (r3_0 φ) [(2, 2), (3, 1), (4, 0)]) (.seq (.reg false (r3_1 φ) [(4, 0)]) (.ret))
def f3 (φ : Nat → Nat) : AFn := ⟨2, [0, 1, 2, 3, 4], 17, b3 φ, [.t 4]⟩
/-! 6: carcanet/carcanetref03.Right: 0:g 1:g 2: 3:i 4:x 5: 6: 7: 8: -/
def r6_0 (φ : Nat → Nat) : List AOper := [
  ⟨0, .N .box, [.n 0], none, 0⟩,
  ⟨1, .N .mv, [.c (.bool false)], none, 0⟩]
def r6_1 (φ : Nat → Nat) : List AOper := [
  ⟨0, .N (.fadd 0), [.n 1], none, 0⟩,
  ⟨1, .N .load1, [.l 0], none, 0⟩,
  ⟨2, .N (.bin .lss), [.l 0, .c (.int .i64 0)], none, 0⟩,
  ⟨3, .N .mv, [.l 0], none, 0⟩,
  ⟨4, .N (.fadd 0), [.n 1], some (.l 0, false), 0⟩,
  ⟨5, .N .load1, [.l 0], some (.l 1, false), 0⟩,
  ⟨6, .N (.bin .gtr), [.l 0, .c (.int .i64 1000)], some (.l 2, false), 0⟩,
  ⟨7, .N .pick, [.l 3, .c (.bool true), .l 0], none, 0⟩,
  ⟨8, .N .mv, [.l 0], none, 0⟩,
  ⟨9, .N (.fadd 1), [.n 1], some (.l 0, false), 0⟩,
  ⟨10, .N .load1, [.l 0], some (.l 1, false), 0⟩,
  ⟨11, .N .lenS, [.l 0], some (.l 2, false), 0⟩,
  ⟨12, .N (.bin .gtr), [.l 0, .c (.int .i64 4000)], some (.l 3, false), 0⟩,
  ⟨13, .N .pick, [.l 4, .c (.bool true), .l 0], none, 0⟩]
def r6_2 (φ : Nat → Nat) : List AOper := [
  ⟨0, .N .mv, [.c (.bool false)], none, 0⟩]
def r6_3 (φ : Nat → Nat) : List AOper := [
  ⟨0, .N .mv, [.c (.int .i64 0)], none, 0⟩]
def r6_4 (φ : Nat → Nat) : List AOper := [
  ⟨0, .N .mv, [.n 3], none, 0⟩,
  ⟨1, .N (.fadd 1), [.n 1], none, 0⟩,
  ⟨2, .N .load1, [.l 0], none, 0⟩,
  ⟨3, .N .lenS, [.l 0], none, 0⟩,
  ⟨4, .N (.bin .lss), [.l 3, .l 0], none, 0⟩]
def r6_5 (φ : Nat → Nat) : List AOper := [
  ⟨0, .N (.fadd 1), [.n 1], none, 0⟩,
  ⟨1, .N .load1, [.l 0], none, 0⟩,
  ⟨2, .N .mv, [.n 3], none, 0⟩,
  ⟨3, .N (.idx 2), [.l 1, .l 0], none, 0⟩,
  ⟨4, .N (.loadN 2), [.l 0], none, 0⟩,
  ⟨5, .N (.alloc [.int .i64 0, .int .i64 0]), [], none, 0⟩,
  ⟨6, .X (.store 2), [.l 0, .l 1], none, 0⟩]
def r6_6 (φ : Nat → Nat) : List AOper := [
  ⟨0, .N (.fadd 0), [.n 4], none, 0⟩,
  ⟨1, .N .load1, [.l 0], none, 0⟩,
  ⟨2, .N (.bin .lss), [.l 0, .c (.int .i64 0)], none, 0⟩,
  ⟨3, .N .mv, [.l 0], none, 0⟩,
  ⟨4, .N (.fadd 1), [.n 4], some (.l 0, false), 0⟩,
  ⟨5, .N .load1, [.l 0], some (.l 1, false), 0⟩,
  ⟨6, .N (.fadd 0), [.n 1], some (.l 2, false), 0⟩,
  ⟨7, .N .load1, [.l 0], some (.l 3, false), 0⟩,
  ⟨8, .N (.bin .geq), [.l 2, .l 0], some (.l 4, false), 0⟩,
  ⟨9, .N .pick, [.l 5, .c (.bool true), .l 0], none, 0⟩,
  ⟨10, .N .mv, [.l 0], none, 0⟩,
  ⟨11, .N (.fadd 0), [.n 4], some (.l 0, false), 0⟩,
  ⟨12, .N .load1, [.l 0], some (.l 1, false), 0⟩,
  ⟨13, .N (.fadd 1), [.n 4], some (.l 2, false), 0⟩,
  ⟨14, .N .load1, [.l 0], some (.l 3, false), 0⟩,
  ⟨15, .N (.bin .geq), [.l 2, .l 0], some (.l 4, false), 0⟩,
  ⟨16, .N .pick, [.l 5, .c (.bool true), .l 0], none, 0⟩]
def r6_7 (φ : Nat → Nat) : List AOper := [
  ⟨0, .N .mv, [.c (.bool false)], none, 0⟩]
def r6_8 (φ : Nat → Nat) : List AOper := [
  ⟨0, .N .mv, [.n 3], none, 0⟩,
  ⟨1, .N (.bin .gtr), [.l 0, .c (.int .i64 0)], none, 1⟩,
  ⟨2, .N .mv, [.l 0], none, 3⟩,
  ⟨3, .N (.fadd 1), [.n 1], some (.l 0, true), 7⟩,
  ⟨4, .N .load1, [.l 0], some (.l 1, true), 15⟩,
  ⟨5, .N .mv, [.n 3], some (.l 2, true), 7⟩,
  ⟨6, .N (.bin .sub), [.l 0, .c (.int .i64 1)], some (.l 3, true), 39⟩,
  ⟨7, .N (.idx 2), [.l 2, .l 0], some (.l 4, true), 127⟩,
  ⟨8, .N (.fadd 0), [.l 0], some (.l 5, true), 255⟩,
  ⟨9, .N .load1, [.l 0], some (.l 6, true), 511⟩,
  ⟨10, .N (.fadd 0), [.n 4], some (.l 7, true), 7⟩,
  ⟨11, .N .load1, [.l 0], some (.l 8, true), 1031⟩,
  ⟨12, .N (.bin .gtr), [.l 2, .l 0], some (.l 9, true), 4095⟩,
  ⟨13, .N .mv, [.l 0], some (.l 10, true), 8191⟩,
  ⟨14, .N (.fadd 1), [.n 1], some (.l 0, false), 16383⟩,
  ⟨15, .N .load1, [.l 0], some (.l 1, false), 32767⟩,
  ⟨16, .N .mv, [.n 3], some (.l 2, false), 16383⟩,
  ⟨17, .N (.bin .sub), [.l 0, .c (.int .i64 1)], some (.l 3, false), 81919⟩,
  ⟨18, .N (.idx 2), [.l 2, .l 0], some (.l 4, false), 262143⟩,
  ⟨19, .N (.fadd 0), [.l 0], some (.l 5, false), 524287⟩,
  ⟨20, .N .load1, [.l 0], some (.l 6, false), 1048575⟩,
  ⟨21, .N (.fadd 0), [.n 4], some (.l 7, false), 16383⟩,
  ⟨22, .N .load1, [.l 0], some (.l 8, false), 2113535⟩,
  ⟨23, .N (.bin .eql), [.l 2, .l 0], some (.l 9, false), 8388607⟩,
  ⟨24, .N .mv, [.l 0], some (.l 10, false), 16777215⟩,
  ⟨25, .N (.fadd 1), [.n 1], some (.l 0, true), 33554431⟩,
  ⟨26, .N .load1, [.l 0], some (.l 1, true), 67108863⟩,
  ⟨27, .N .mv, [.n 3], some (.l 2, true), 33554431⟩,
  ⟨28, .N (.bin .sub), [.l 0, .c (.int .i64 1)], some (.l 3, true), 167772159⟩,
  ⟨29, .N (.idx 2), [.l 2, .l 0], some (.l 4, true), 536870911⟩,
  ⟨30, .N (.fadd 1), [.l 0], some (.l 5, true), 1073741823⟩,
  ⟨31, .N .load1, [.l 0], some (.l 6, true), 2147483647⟩,
  ⟨32, .N (.fadd 1), [.n 4], some (.l 7, true), 33554431⟩,
  ⟨33, .N .load1, [.l 0], some (.l 8, true), 4328521727⟩,
  ⟨34, .N (.bin .geq), [.l 2, .l 0], some (.l 9, true), 17179869183⟩,
  ⟨35, .N .pick, [.l 10, .l 0, .c (.bool false)], some (.l 21, false), 34359738367⟩,
  ⟨36, .N .pick, [.l 22, .c (.bool true), .l 0], some (.l 33, true), 68719476735⟩,
  ⟨37, .N .pick, [.l 34, .l 0, .c (.bool false)], none, 137438953471⟩]
def r6_9 (φ : Nat → Nat) : List AOper := [
  ⟨0, .N .mv, [.c (.bool false)], none, 0⟩]
def r6_10 (φ : Nat → Nat) : List AOper := [
  ⟨0, .N .mv, [.n 3], none, 0⟩,
  ⟨1, .N (.bin .add), [.l 0, .c (.int .i64 1)], none, 0⟩,
  ⟨2, .N .mv, [.l 0], none, 0⟩]
def l6_11 (φ : Nat → Nat) : ACode := .seq (.seq (.reg false (r6_4 φ) [(6, 0)]) (.cond (.n 6) (.skip) (.exit 0))) (.seq (.block 1 (.seq (.reg false (r6_5 φ) [(4, 1)]) (.seq (.seq (.reg false (r6_6 φ) [(7, 0)]) (.cond (.n 7) (.seq (.reg false (r6_7 φ) [(2, 0)]) (.ret)) (.skip))) (.seq (.reg true (r6_8 φ) [(8, 0)]) (.cond (.n 8) (.seq (.reg false (r6_9 φ) [(2, 0)]) (.ret)) (.skip)))))) (.reg false (r6_10 φ) [(3, 0)]))
def r6_12 (φ : Nat → Nat) : List AOper := [
  ⟨0, .N .mv, [.c (.bool true)], none, 0⟩]
def b6 (φ : Nat → Nat) : ACode := .seq (.reg false (r6_0 φ) [(1, 1), (2, 0)]) (.seq (.seq (.reg false (r6_1 φ) [(5, 0)]) (.cond (.n 5) (.seq (.reg false (r6_2 φ) [(2, 0)]) (.ret)) (.skip))) (.seq (.seq (.reg false (r6_3 φ) [(3, 0)]) (.block 0 (.loop (l6_11 φ)))) (.seq (.reg false (r6_12 φ) [(2, 0)]) (.ret))))
def f6 (φ : Nat → Nat) : AFn := ⟨1, [0, 1, 2, 3, 4, 18, 23, 47, 85], 86, b6 φ, [.t 2]⟩
/-! 8: carcanet/carcanetref03.Has: 0:g 1:a 2:b 3:g 4: 5:i 6: 7: 8: -/
def r8_0 (φ : Nat → Nat) : List AOper := [
  ⟨0, .N .box, [.n 0], none, 0⟩,
  ⟨1, .N .mv, [.c (.bool false)], none, 0⟩]
def r8_1 (φ : Nat → Nat) : List AOper := [
  ⟨0, .N (.loadN 2), [.n 3], none, 0⟩,
  ⟨1, .calli true (φ 6), [.l 0], none, 0⟩,
  ⟨2, .N (.un .not), [.l 0], none, 0⟩]
def r8_2 (φ : Nat → Nat) : List AOper := [
  ⟨0, .N .mv, [.c (.bool false)], none, 0⟩]
def r8_3 (φ : Nat → Nat) : List AOper := [
  ⟨0, .N .mv, [.c (.int .i64 0)], none, 0⟩]
def r8_4 (φ : Nat → Nat) : List AOper := [
  ⟨0, .N .mv, [.n 5], none, 0⟩,
  ⟨1, .N (.fadd 1), [.n 3], none, 0⟩,
  ⟨2, .N .load1, [.l 0], none, 0⟩,
  ⟨3, .N .lenS, [.l 0], none, 0⟩,
  ⟨4, .N (.bin .lss), [.l 3, .l 0], none, 0⟩]
def r8_5 (φ : Nat → Nat) : List AOper := [
  ⟨0, .N (.fadd 1), [.n 3], none, 0⟩,
  ⟨1, .N .load1, [.l 0], none, 0⟩,
  ⟨2, .N .mv, [.n 5], none, 0⟩,
  ⟨3, .N (.idx 2), [.l 1, .l 0], none, 0⟩,
  ⟨4, .N (.fadd 0), [.l 0], none, 0⟩,
  ⟨5, .N .load1, [.l 0], none, 0⟩,
  ⟨6, .N .mv, [.n 1], none, 0⟩,
  ⟨7, .N (.bin .eql), [.l 1, .l 0], none, 0⟩,
  ⟨8, .N .mv, [.l 0], none, 0⟩,
  ⟨9, .N (.fadd 1), [.n 3], some (.l 0, true), 0⟩,
  ⟨10, .N .load1, [.l 0], some (.l 1, true), 0⟩,
  ⟨11, .N .mv, [.n 5], some (.l 2, true), 0⟩,
  ⟨12, .N (.idx 2), [.l 1, .l 0], some (.l 3, true), 0⟩,
  ⟨13, .N (.fadd 1), [.l 0], some (.l 4, true), 0⟩,
  ⟨14, .N .load1, [.l 0], some (.l 5, true), 0⟩,
  ⟨15, .N .mv, [.n 2], some (.l 6, true), 0⟩,
  ⟨16, .N (.bin .eql), [.l 1, .l 0], some (.l 7, true), 0⟩,
  ⟨17, .N .pick, [.l 8, .l 0, .c (.bool false)], none, 0⟩,
  ⟨18, .N .mv, [.l 0], none, 0⟩,
  ⟨19, .N (.fadd 1), [.n 3], some (.l 0, false), 0⟩,
  ⟨20, .N .load1, [.l 0], some (.l 1, false), 0⟩,
  ⟨21, .N .mv, [.n 5], some (.l 2, false), 0⟩,
  ⟨22, .N (.idx 2), [.l 1, .l 0], some (.l 3, false), 0⟩,
  ⟨23, .N (.fadd 0), [.l 0], some (.l 4, false), 0⟩,
  ⟨24, .N .load1, [.l 0], some (.l 5, false), 0⟩,
  ⟨25, .N .mv, [.n 2], some (.l 6, false), 0⟩,
  ⟨26, .N (.bin .eql), [.l 1, .l 0], some (.l 7, false), 0⟩,
  ⟨27, .N .mv, [.l 0], some (.l 8, false), 0⟩,
  ⟨28, .N (.fadd 1), [.n 3], some (.l 0, true), 0⟩,
  ⟨29, .N .load1, [.l 0], some (.l 1, true), 0⟩,
  ⟨30, .N .mv, [.n 5], some (.l 2, true), 0⟩,
  ⟨31, .N (.idx 2), [.l 1, .l 0], some (.l 3, true), 0⟩,
  ⟨32, .N (.fadd 1), [.l 0], some (.l 4, true), 0⟩,
  ⟨33, .N .load1, [.l 0], some (.l 5, true), 0⟩,
  ⟨34, .N .mv, [.n 1], some (.l 6, true), 0⟩,
  ⟨35, .N (.bin .eql), [.l 1, .l 0], some (.l 7, true), 0⟩,
  ⟨36, .N .pick, [.l 8, .l 0, .c (.bool false)], some (.l 17, false), 0⟩,
  ⟨37, .N .pick, [.l 18, .c (.bool true), .l 0], none, 0⟩]
def r8_6 (φ : Nat → Nat) : List AOper := [
  ⟨0, .N .mv, [.c (.bool true)], none, 0⟩]
def r8_7 (φ : Nat → Nat) : List AOper := [
  ⟨0, .N .mv, [.n 5], none, 0⟩,
  ⟨1, .N (.bin .add), [.l 0, .c (.int .i64 1)], none, 0⟩,
  ⟨2, .N .mv, [.l 0], none, 0⟩]
def l8_8 (φ : Nat → Nat) : ACode := .seq (.seq (.reg false (r8_4 φ) [(7, 0)]) (.cond (.n 7) (.skip) (.exit 0))) (.seq (.block 1 (.seq (.reg false (r8_5 φ) [(8, 0)]) (.cond (.n 8) (.seq (.reg false (r8_6 φ) [(4, 0)]) (.ret)) (.skip)))) (.reg false (r8_7 φ) [(5, 0)]))
def r8_9 (φ : Nat → Nat) : List AOper := [
  ⟨0, .N .mv, [.c (.bool false)], none, 0⟩]
def b8 (φ : Nat → Nat) : ACode := .seq (.reg false (r8_0 φ) [(3, 1), (4, 0)]) (.seq (.seq (.reg false (r8_1 φ) [(6, 0)]) (.cond (.n 6) (.seq (.reg false (r8_2 φ) [(4, 0)]) (.ret)) (.skip))) (.seq (.seq (.reg false (r8_3 φ) [(5, 0)]) (.block 0 (.loop (l8_8 φ)))) (.seq (.reg false (r8_9 φ) [(4, 0)]) (.ret))))
def f8 (φ : Nat → Nat) : AFn := ⟨3, [0, 1, 2, 3, 6, 7, 10, 15, 55], 56, b8 φ, [.t 4]⟩
/-! 10: carcanet/carcanetref03.Near: 0:g 1:v 2:g 3: 4:out 5:i 6: 7: 8: 9: -/
def r10_0 (φ : Nat → Nat) : List AOper := [
  ⟨0, .N .box, [.n 0], none, 0⟩,
  ⟨1, .N .mv, [.c (.nils)], none, 0⟩]
def r10_1 (φ : Nat → Nat) : List AOper := [
  ⟨0, .N (.bsl [.int .i64 0] 0 1 []), [], none, 0⟩,
  ⟨1, .N .mv, [.l 0], none, 0⟩]
def r10_2 (φ : Nat → Nat) : List AOper := [
  ⟨0, .N (.loadN 2), [.n 2], none, 0⟩,
  ⟨1, .calli true (φ 6), [.l 0], none, 0⟩,
  ⟨2, .N (.un .not), [.l 0], none, 0⟩]
def r10_3 (φ : Nat → Nat) : List AOper := [
  ⟨0, .N .mv, [.n 4], none, 0⟩,
  ⟨1, .N .mv, [.l 0], none, 0⟩]
def r10_4 (φ : Nat → Nat) : List AOper := [
  ⟨0, .N .mv, [.c (.int .i64 0)], none, 0⟩]
def r10_5 (φ : Nat → Nat) : List AOper := [
  ⟨0, .N .mv, [.n 5], none, 0⟩,
  ⟨1, .N (.fadd 1), [.n 2], none, 0⟩,
  ⟨2, .N .load1, [.l 0], none, 0⟩,
  ⟨3, .N .lenS, [.l 0], none, 0⟩,
  ⟨4, .N (.bin .lss), [.l 3, .l 0], none, 0⟩]
def r10_6 (φ : Nat → Nat) : List AOper := [
  ⟨0, .N (.fadd 1), [.n 2], none, 0⟩,
  ⟨1, .N .load1, [.l 0], none, 0⟩,
  ⟨2, .N .mv, [.n 5], none, 0⟩,
  ⟨3, .N (.idx 2), [.l 1, .l 0], none, 0⟩,
  ⟨4, .N (.fadd 0), [.l 0], none, 0⟩,
  ⟨5, .N .load1, [.l 0], none, 0⟩,
  ⟨6, .N .mv, [.n 1], none, 0⟩,
  ⟨7, .N (.bin .eql), [.l 1, .l 0], none, 0⟩]
def r10_7 (φ : Nat → Nat) : List AOper := [
  ⟨0, .N .mv, [.n 4], none, 0⟩,
  ⟨1, .N (.fadd 1), [.n 2], none, 0⟩,
  ⟨2, .N .load1, [.l 0], none, 0⟩,
  ⟨3, .N .mv, [.n 5], none, 0⟩,
  ⟨4, .N (.idx 2), [.l 1, .l 0], none, 0⟩,
  ⟨5, .N (.fadd 1), [.l 0], none, 0⟩,
  ⟨6, .N .load1, [.l 0], none, 0⟩,
  ⟨7, .N (.bsl [.int .i64 0] 1 1 [(0, 1)]), [.l 0], none, 0⟩,
  ⟨8, .X (.app 1 8), [.l 7, .l 0], none, 0⟩,
  ⟨9, .N .mv, [.l 0], none, 0⟩]
def r10_8 (φ : Nat → Nat) : List AOper := [
  ⟨0, .N (.fadd 1), [.n 2], none, 0⟩,
  ⟨1, .N .load1, [.l 0], none, 0⟩,
  ⟨2, .N .mv, [.n 5], none, 0⟩,
  ⟨3, .N (.idx 2), [.l 1, .l 0], none, 0⟩,
  ⟨4, .N (.fadd 1), [.l 0], none, 0⟩,
  ⟨5, .N .load1, [.l 0], none, 0⟩,
  ⟨6, .N .mv, [.n 1], none, 0⟩,
  ⟨7, .N (.bin .eql), [.l 1, .l 0], none, 0⟩]
def r10_9 (φ : Nat → Nat) : List AOper := [
  ⟨0, .N .mv, [.n 4], none, 0⟩,
  ⟨1, .N (.fadd 1), [.n 2], none, 0⟩,
  ⟨2, .N .load1, [.l 0], none, 0⟩,
  ⟨3, .N .mv, [.n 5], none, 0⟩,
  ⟨4, .N (.idx 2), [.l 1, .l 0], none, 0⟩,
  ⟨5, .N (.fadd 0), [.l 0], none, 0⟩,
  ⟨6, .N .load1, [.l 0], none, 0⟩,
  ⟨7, .N (.bsl [.int .i64 0] 1 1 [(0, 1)]), [.l 0], none, 0⟩,
  ⟨8, .X (.app 1 8), [.l 7, .l 0], none, 0⟩,
  ⟨9, .N .mv, [.l 0], none, 0⟩]
def r10_10 (φ : Nat → Nat) : List AOper := [
  ⟨0, .N .mv, [.n 5], none, 0⟩,
  ⟨1, .N (.bin .add), [.l 0, .c (.int .i64 1)], none, 0⟩,
  ⟨2, .N .mv, [.l 0], none, 0⟩]
def l10_11 (φ : Nat → Nat) : ACode := .seq (.seq (.reg false (r10_5 φ) [(7, 0)]) (.cond (.n 7) (.skip) (.exit 0))) (.seq (.block 1 (.seq (.seq (.reg false (r10_6 φ) [(8, 0)]) (.cond (.n 8) (.reg false (r10_7 φ) [(4, 0)]) (.skip))) (.seq (.reg false (r10_8 φ) [(9, 0)]) (.cond (.n 9) (.reg false (r10_9 φ) [(4, 0)]) (.skip))))) (.reg false (r10_10 φ) [(5, 0)]))
def r10_12 (φ : Nat → Nat) : List AOper := [
  ⟨0, .N .mv, [.n 4], none, 0⟩,
  ⟨1, .calli false (φ 30), [.l 0], none, 0⟩,
  ⟨2, .N .mv, [.l 0], none, 0⟩]
def b10 (φ : Nat → Nat) : ACode := .seq (.reg false (r10_0 φ) [(2, 1), (3, 0)]) (.seq (.reg false (r10_1 φ) [(4, 0)]) (.seq (.seq (.reg false (r10_2 φ) [(6, 0)]) (.cond (.n 6) (.seq (.reg false (r10_3 φ) [(3, 0)]) (.ret)) (.skip))) (.seq (.seq (.reg false (r10_4 φ) [(5, 0)]) (.block 0 (.loop (l10_11 φ)))) (.seq (.reg false (r10_12 φ) [(3, 0)]) (.ret)))))
def f10 (φ : Nat → Nat) : AFn := ⟨2, [0, 1, 2, 4, 5, 6, 10, 16, 26, 43], 55, b10 φ, [.t 3]⟩
/-! 11: carcanet/carcanetref03.Same: 0:a 1:b 2: 3:i 4: 5: 6: -/
def r11_0 (φ : Nat → Nat) : List AOper := [
  ⟨0, .N .mv, [.c (.bool false)], none, 0⟩]
def r11_1 (φ : Nat → Nat) : List AOper := [
  ⟨0, .N .mv, [.n 0], none, 0⟩,
  ⟨1, .N .lenS, [.l 0], none, 0⟩,
  ⟨2, .N .mv, [.n 1], none, 0⟩,
  ⟨3, .N .lenS, [.l 0], none, 0⟩,
  ⟨4, .N (.bin .neq), [.l 2, .l 0], none, 0⟩]
def r11_2 (φ : Nat → Nat) : List AOper := [
  ⟨0, .N .mv, [.c (.bool false)], none, 0⟩]
def r11_3 (φ : Nat → Nat) : List AOper := [
  ⟨0, .N .mv, [.c (.int .i64 0)], none, 0⟩]
def r11_4 (φ : Nat → Nat) : List AOper := [
  ⟨0, .N .mv, [.n 3], none, 0⟩,
  ⟨1, .N .mv, [.n 0], none, 0⟩,
  ⟨2, .N .lenS, [.l 0], none, 0⟩,
  ⟨3, .N (.bin .lss), [.l 2, .l 0], none, 0⟩]
def r11_5 (φ : Nat → Nat) : List AOper := [
  ⟨0, .N .mv, [.n 0], none, 0⟩,
  ⟨1, .N .mv, [.n 3], none, 0⟩,
  ⟨2, .N (.idx 1), [.l 1, .l 0], none, 3⟩,
  ⟨3, .N .load1, [.l 0], none, 7⟩,
  ⟨4, .N .mv, [.n 1], none, 0⟩,
  ⟨5, .N .mv, [.n 3], none, 0⟩,
  ⟨6, .N (.idx 1), [.l 1, .l 0], none, 48⟩,
  ⟨7, .N .load1, [.l 0], none, 112⟩,
  ⟨8, .N (.bin .neq), [.l 4, .l 0], none, 255⟩]
def r11_6 (φ : Nat → Nat) : List AOper := [
  ⟨0, .N .mv, [.c (.bool false)], none, 0⟩]
def r11_7 (φ : Nat → Nat) : List AOper := [
  ⟨0, .N .mv, [.n 3], none, 0⟩,
  ⟨1, .N (.bin .add), [.l 0, .c (.int .i64 1)], none, 0⟩,
  ⟨2, .N .mv, [.l 0], none, 0⟩]
def l11_8 (φ : Nat → Nat) : ACode := .seq (.seq (.reg false (r11_4 φ) [(5, 0)]) (.cond (.n 5) (.skip) (.exit 0))) (.seq (.block 1 (.seq (.reg true (r11_5 φ) [(6, 0)]) (.cond (.n 6) (.seq (.reg false (r11_6 φ) [(2, 0)]) (.ret)) (.skip)))) (.reg false (r11_7 φ) [(3, 0)]))
def r11_9 (φ : Nat → Nat) : List AOper := [
  ⟨0, .N .mv, [.c (.bool true)], none, 0⟩]
def b11 (φ : Nat → Nat) : ACode := .seq (.reg false (r11_0 φ) [(2, 0)]) (.seq (.seq (.reg false (r11_1 φ) [(4, 0)]) (.cond (.n 4) (.seq (.reg false (r11_2 φ) [(2, 0)]) (.ret)) (.skip))) (.seq (.seq (.reg false (r11_3 φ) [(3, 0)]) (.block 0 (.loop (l11_8 φ)))) (.seq (.reg false (r11_9 φ) [(2, 0)]) (.ret))))
def f11 (φ : Nat → Nat) : AFn := ⟨2, [0, 1, 4, 5, 10, 14, 25], 26, b11 φ, [.t 2]⟩
/-! 13: carcanet/carcanetref03.Degrees: 0:g 1:g 2: 3:out 4:v 5: 6: -/
def r13_0 (φ : Nat → Nat) : List AOper := [
  ⟨0, .N .box, [.n 0], none, 0⟩,
  ⟨1, .N .mv, [.c (.nils)], none, 0⟩]
def r13_1 (φ : Nat → Nat) : List AOper := [
  ⟨0, .N (.bsl [.int .i64 0] 0 1 []), [], none, 0⟩,
  ⟨1, .N .mv, [.l 0], none, 0⟩]
def r13_2 (φ : Nat → Nat) : List AOper := [
  ⟨0, .N (.loadN 2), [.n 1], none, 0⟩,
  ⟨1, .calli true (φ 6), [.l 0], none, 0⟩,
  ⟨2, .N (.un .not), [.l 0], none, 0⟩]
def r13_3 (φ : Nat → Nat) : List AOper := [
  ⟨0, .N .mv, [.n 3], none, 0⟩,
  ⟨1, .N .mv, [.l 0], none, 0⟩]
def r13_4 (φ : Nat → Nat) : List AOper := [
  ⟨0, .N .mv, [.c (.int .i64 0)], none, 0⟩]
def r13_5 (φ : Nat → Nat) : List AOper := [
  ⟨0, .N .mv, [.n 4], none, 0⟩,
  ⟨1, .N (.fadd 0), [.n 1], none, 0⟩,
  ⟨2, .N .load1, [.l 0], none, 0⟩,
  ⟨3, .N (.bin .lss), [.l 2, .l 0], none, 0⟩]
def r13_6 (φ : Nat → Nat) : List AOper := [
  ⟨0, .N .mv, [.n 3], none, 0⟩,
  ⟨1, .N (.loadN 2), [.n 1], none, 0⟩,
  ⟨2, .N .mv, [.n 4], none, 0⟩,
  ⟨3, .calli false (φ 10), [.l 1, .l 0], none, 0⟩,
  ⟨4, .N .lenS, [.l 0], none, 0⟩,
  ⟨5, .N (.bsl [.int .i64 0] 1 1 [(0, 1)]), [.l 0], none, 0⟩,
  ⟨6, .X (.app 1 8), [.l 5, .l 0], none, 0⟩,
  ⟨7, .N .mv, [.l 0], none, 0⟩]
def r13_7 (φ : Nat → Nat) : List AOper := [
  ⟨0, .N .mv, [.n 4], none, 0⟩,
  ⟨1, .N (.bin .add), [.l 0, .c (.int .i64 1)], none, 0⟩,
  ⟨2, .N .mv, [.l 0], none, 0⟩]
def l13_8 (φ : Nat → Nat) : ACode := .seq (.seq (.reg false (r13_5 φ) [(6, 0)]) (.cond (.n 6) (.skip) (.exit 0))) (.seq (.block 1 (.reg false (r13_6 φ) [(3, 0)])) (.reg false (r13_7 φ) [(4, 0)]))
def r13_9 (φ : Nat → Nat) : List AOper := [
  ⟨0, .N .mv, [.n 3], none, 0⟩,
  ⟨1, .N .mv, [.l 0], none, 0⟩]
def b13 (φ : Nat → Nat) : ACode := .seq (.reg false (r13_0 φ) [(1, 1), (2, 0)]) (.seq (.reg false (r13_1 φ) [(3, 0)]) (.seq (.seq (.reg false (r13_2 φ) [(5, 0)]) (.cond (.n 5) (.seq (.reg false (r13_3 φ) [(2, 0)]) (.ret)) (.skip))) (.seq (.seq (.reg false (r13_4 φ) [(4, 0)]) (.block 0 (.loop (l13_8 φ)))) (.seq (.reg false (r13_9 φ) [(2, 0)]) (.ret)))))
def f13 (φ : Nat → Nat) : AFn := ⟨1, [0, 1, 2, 3, 4, 8, 13], 24, b13 φ, [.t 2]⟩
/-! 16: carcanet/carcanetref03.Add: 0:g 1:a 2:b 3:g 4: 5: 6: 7: 8: -/
def r16_0 (φ : Nat → Nat) : List AOper := [
  ⟨0, .N .box, [.n 0], none, 0⟩,
  ⟨1, .N (.alloc [.int .i64 0, .nils]), [], none, 0⟩,
  ⟨2, .N .mv, [.c (.int .i64 0)], none, 0⟩]
def r16_1 (φ : Nat → Nat) : List AOper := [
  ⟨0, .N (.loadN 2), [.n 3], none, 0⟩,
  ⟨1, .calli true (φ 6), [.l 0], none, 0⟩,
  ⟨2, .N (.un .not), [.l 0], none, 0⟩]
def r16_2 (φ : Nat → Nat) : List AOper := [
  ⟨0, .N (.build [.int .i64 0, .nils] []), [], none, 0⟩,
  ⟨1, .X (.store 2), [.n 4, .l 0], none, 0⟩,
  ⟨2, .N .mv, [.c (.int .i64 1)], none, 0⟩]
def r16_3 (φ : Nat → Nat) : List AOper := [
  ⟨0, .N .mv, [.n 1], none, 0⟩,
  ⟨1, .N (.bin .lss), [.l 0, .c (.int .i64 0)], none, 0⟩,
  ⟨2, .N .mv, [.l 0], none, 0⟩,
  ⟨3, .N .mv, [.n 2], some (.l 0, false), 0⟩,
  ⟨4, .N (.bin .lss), [.l 0, .c (.int .i64 0)], some (.l 1, false), 0⟩,
  ⟨5, .N .pick, [.l 2, .c (.bool true), .l 0], none, 0⟩,
  ⟨6, .N .mv, [.l 0], none, 0⟩,
  ⟨7, .N .mv, [.n 1], some (.l 0, false), 0⟩,
  ⟨8, .N (.fadd 0), [.n 3], some (.l 1, false), 0⟩,
  ⟨9, .N .load1, [.l 0], some (.l 2, false), 0⟩,
  ⟨10, .N (.bin .geq), [.l 2, .l 0], some (.l 3, false), 0⟩,
  ⟨11, .N .pick, [.l 4, .c (.bool true), .l 0], none, 0⟩,
  ⟨12, .N .mv, [.l 0], none, 0⟩,
  ⟨13, .N .mv, [.n 2], some (.l 0, false), 0⟩,
  ⟨14, .N (.fadd 0), [.n 3], some (.l 1, false), 0⟩,
  ⟨15, .N .load1, [.l 0], some (.l 2, false), 0⟩,
  ⟨16, .N (.bin .geq), [.l 2, .l 0], some (.l 3, false), 0⟩,
  ⟨17, .N .pick, [.l 4, .c (.bool true), .l 0], none, 0⟩]
def r16_4 (φ : Nat → Nat) : List AOper := [
  ⟨0, .N (.build [.int .i64 0, .nils] []), [], none, 0⟩,
  ⟨1, .X (.store 2), [.n 4, .l 0], none, 0⟩,
  ⟨2, .N .mv, [.c (.int .i64 4)], none, 0⟩]
def r16_5 (φ : Nat → Nat) : List AOper := [
  ⟨0, .N .mv, [.n 1], none, 0⟩,
  ⟨1, .N .mv, [.n 2], none, 0⟩,
  ⟨2, .N (.bin .eql), [.l 1, .l 0], none, 0⟩]
def r16_6 (φ : Nat → Nat) : List AOper := [
  ⟨0, .N (.build [.int .i64 0, .nils] []), [], none, 0⟩,
  ⟨1, .X (.store 2), [.n 4, .l 0], none, 0⟩,
  ⟨2, .N .mv, [.c (.int .i64 1)], none, 0⟩]
def r16_7 (φ : Nat → Nat) : List AOper := [
  ⟨0, .N (.fadd 0), [.n 3], none, 0⟩,
  ⟨1, .N .load1, [.l 0], none, 1⟩,
  ⟨2, .N (.bsl [.int .i64 0, .int .i64 0] 0 2 []), [], none, 0⟩,
  ⟨3, .N (.fadd 1), [.n 3], none, 0⟩,
  ⟨4, .N .load1, [.l 0], none, 8⟩,
  ⟨6, .N .mv, [.n 1], none, 0⟩,
  ⟨7, .N .mv, [.n 2], none, 0⟩,
  ⟨8, .N (.build [.int .i64 0, .int .i64 0] [(0, 1), (1, 1)]), [.l 1, .l 0], none, 96⟩,
  ⟨9, .N (.bsl [.int .i64 0, .int .i64 0] 1 2 [(0, 2)]), [.l 0], none, 224⟩,
  ⟨5, .X (.app 2 16), [.l 6, .l 4], none, 28⟩,
  ⟨10, .X (.app 2 16), [.l 0, .l 1], none, 1020⟩,
  ⟨11, .calli false (φ 2), [.l 9, .l 0], none, 2047⟩,
  ⟨12, .N (.ext 0), [.l 0], none, 4095⟩,
  ⟨13, .N (.ext 1), [.l 1], none, 4095⟩,
  ⟨14, .X (.store 2), [.n 4, .l 1], none, 16383⟩,
  ⟨15, .N .mv, [.l 1], none, 32767⟩]
def b16 (φ : Nat → Nat) : ACode := .seq (.reg false (r16_0 φ) [(3, 2), (4, 1), (5, 0)]) (.seq (.seq (.reg false (r16_1 φ) [(6, 0)]) (.cond (.n 6) (.seq (.reg false (r16_2 φ) [(5, 0)]) (.ret)) (.skip))) (.seq (.seq (.reg false (r16_3 φ) [(7, 0)]) (.cond (.n 7) (.seq (.reg false (r16_4 φ) [(5, 0)]) (.ret)) (.skip))) (.seq (.seq (.reg false (r16_5 φ) [(8, 0)]) (.cond (.n 8) (.seq (.reg false (r16_6 φ) [(5, 0)]) (.ret)) (.skip))) (.seq (.reg true (r16_7 φ) [(5, 0)]) (.ret)))))
def f16 (φ : Nat → Nat) : AFn := ⟨3, [0, 1, 2, 3, 6, 7, 10, 29, 33], 49, b16 φ, [.cell 4 (some 2), .t 5]⟩
/-! 18: carcanet/carcanetref03.Without: 0:g 1:a 2:b 3:g 4: 5: 6:out 7:i 8: 9: 10: 11: -/
def r18_0 (φ : Nat → Nat) : List AOper := [
  ⟨0, .N .box, [.n 0], none, 0⟩,
  ⟨1, .N (.alloc [.int .i64 0, .nils]), [], none, 0⟩,
  ⟨2, .N .mv, [.c (.int .i64 0)], none, 0⟩]
def r18_1 (φ : Nat → Nat) : List AOper := [
  ⟨0, .N (.loadN 2), [.n 3], none, 0⟩,
  ⟨1, .calli true (φ 6), [.l 0], none, 0⟩,
  ⟨2, .N (.un .not), [.l 0], none, 0⟩]
def r18_2 (φ : Nat → Nat) : List AOper := [
  ⟨0, .N (.build [.int .i64 0, .nils] []), [], none, 0⟩,
  ⟨1, .X (.store 2), [.n 4, .l 0], none, 0⟩,
  ⟨2, .N .mv, [.c (.int .i64 1)], none, 0⟩]
def r18_3 (φ : Nat → Nat) : List AOper := [
  ⟨0, .N (.loadN 2), [.n 3], none, 0⟩,
  ⟨1, .N .mv, [.n 1], none, 0⟩,
  ⟨2, .N .mv, [.n 2], none, 0⟩,
  ⟨3, .calli true (φ 8), [.l 2, .l 1, .l 0], none, 0⟩,
  ⟨4, .N (.un .not), [.l 0], none, 0⟩]
def r18_4 (φ : Nat → Nat) : List AOper := [
  ⟨0, .N (.build [.int .i64 0, .nils] []), [], none, 0⟩,
  ⟨1, .X (.store 2), [.n 4, .l 0], none, 0⟩,
  ⟨2, .N .mv, [.c (.int .i64 6)], none, 0⟩]
def r18_5 (φ : Nat → Nat) : List AOper := [
  ⟨0, .N (.fadd 0), [.n 3], none, 0⟩,
  ⟨1, .N .load1, [.l 0], none, 0⟩,
  ⟨2, .N (.build [.int .i64 0, .nils] [(0, 1)]), [.l 0], none, 0⟩,
  ⟨3, .N (.alloc [.int .i64 0, .nils]), [], none, 0⟩,
  ⟨4, .X (.store 2), [.l 0, .l 1], none, 0⟩]
def r18_6 (φ : Nat → Nat) : List AOper := [
  ⟨0, .N .mv, [.c (.int .i64 0)], none, 0⟩]
def r18_7 (φ : Nat → Nat) : List AOper := [
  ⟨0, .N .mv, [.n 7], none, 0⟩,
  ⟨1, .N (.fadd 1), [.n 3], none, 0⟩,
  ⟨2, .N .load1, [.l 0], none, 0⟩,
  ⟨3, .N .lenS, [.l 0], none, 0⟩,
  ⟨4, .N (.bin .lss), [.l 3, .l 0], none, 0⟩]
def r18_8 (φ : Nat → Nat) : List AOper := [
  ⟨0, .N (.fadd 1), [.n 3], none, 0⟩,
  ⟨1, .N .load1, [.l 0], none, 0⟩,
  ⟨2, .N .mv, [.n 7], none, 0⟩,
  ⟨3, .N (.idx 2), [.l 1, .l 0], none, 0⟩,
  ⟨4, .N (.fadd 0), [.l 0], none, 0⟩,
  ⟨5, .N .load1, [.l 0], none, 0⟩,
  ⟨6, .N .mv, [.n 1], none, 0⟩,
  ⟨7, .N .mv, [.n 2], none, 0⟩,
  ⟨8, .N .min, [.l 1, .l 0], none, 0⟩,
  ⟨9, .N (.bin .neq), [.l 3, .l 0], none, 0⟩,
  ⟨10, .N .mv, [.l 0], none, 0⟩,
  ⟨11, .N (.fadd 1), [.n 3], some (.l 0, false), 0⟩,
  ⟨12, .N .load1, [.l 0], some (.l 1, false), 0⟩,
  ⟨13, .N .mv, [.n 7], some (.l 2, false), 0⟩,
  ⟨14, .N (.idx 2), [.l 1, .l 0], some (.l 3, false), 0⟩,
  ⟨15, .N (.fadd 1), [.l 0], some (.l 4, false), 0⟩,
  ⟨16, .N .load1, [.l 0], some (.l 5, false), 0⟩,
  ⟨17, .N .mv, [.n 1], some (.l 6, false), 0⟩,
  ⟨18, .N .mv, [.n 2], some (.l 7, false), 0⟩,
  ⟨19, .N .max, [.l 1, .l 0], some (.l 8, false), 0⟩,
  ⟨20, .N (.bin .neq), [.l 3, .l 0], some (.l 9, false), 0⟩,
  ⟨21, .N .pick, [.l 10, .c (.bool true), .l 0], none, 0⟩]
def r18_9 (φ : Nat → Nat) : List AOper := [
  ⟨0, .N (.fadd 1), [.n 6], none, 0⟩,
  ⟨1, .N .load1, [.l 0], none, 1⟩,
  ⟨2, .N (.fadd 1), [.n 3], none, 0⟩,
  ⟨3, .N .load1, [.l 0], none, 4⟩,
  ⟨4, .N .mv, [.n 7], none, 0⟩,
  ⟨5, .N (.idx 2), [.l 1, .l 0], none, 28⟩,
  ⟨6, .N (.loadN 2), [.l 0], none, 60⟩,
  ⟨7, .N (.bsl [.int .i64 0, .int .i64 0] 1 2 [(0, 2)]), [.l 0], none, 124⟩,
  ⟨8, .X (.app 2 16), [.l 6, .l 0], none, 255⟩,
  ⟨9, .N (.fadd 1), [.n 6], none, 511⟩,
  ⟨10, .X (.store 1), [.l 0, .l 1], none, 1023⟩]
def r18_10 (φ : Nat → Nat) : List AOper := [
  ⟨0, .N .mv, [.n 7], none, 0⟩,
  ⟨1, .N (.bin .add), [.l 0, .c (.int .i64 1)], none, 0⟩,
  ⟨2, .N .mv, [.l 0], none, 0⟩]
def l18_11 (φ : Nat → Nat) : ACode := .seq (.seq (.reg false (r18_7 φ) [(10, 0)]) (.cond (.n 10) (.skip) (.exit 0))) (.seq (.block 1 (.seq (.reg false (r18_8 φ) [(11, 0)]) (.cond (.n 11) (.reg true (r18_9 φ) []) (.skip)))) (.reg false (r18_10 φ) [(7, 0)]))
def r18_12 (φ : Nat → Nat) : List AOper := [
  ⟨0, .N (.loadN 2), [.n 6], none, 0⟩,
  ⟨1, .X (.store 2), [.n 4, .l 0], none, 0⟩,
  ⟨2, .N .mv, [.c (.int .i64 0)], none, 0⟩]
def b18 (φ : Nat → Nat) : ACode := .seq (.reg false (r18_0 φ) [(3, 2), (4, 1), (5, 0)]) (.seq (.seq (.reg false (r18_1 φ) [(8, 0)]) (.cond (.n 8) (.seq (.reg false (r18_2 φ) [(5, 0)]) (.ret)) (.skip))) (.seq (.seq (.reg false (r18_3 φ) [(9, 0)]) (.cond (.n 9) (.seq (.reg false (r18_4 φ) [(5, 0)]) (.ret)) (.skip))) (.seq (.reg false (r18_5 φ) [(6, 1)]) (.seq (.seq (.reg false (r18_6 φ) [(7, 0)]) (.block 0 (.loop (l18_11 φ)))) (.seq (.reg false (r18_12 φ) [(5, 0)]) (.ret))))))
def f18 (φ : Nat → Nat) : AFn := ⟨3, [0, 1, 2, 3, 6, 7, 8, 9, 12, 18, 27, 51], 63, b18 φ, [.cell 4 (some 2), .t 5]⟩
/-! 22: carcanet/carcanetref03.Any: 0:n 1:l 2:most 3: 4:all 5:i 6:g 7: -/
def r22_0 (φ : Nat → Nat) : List AOper := [
  ⟨0, .N (.alloc [.int .i64 0, .nils]), [], none, 0⟩]
def r22_1 (φ : Nat → Nat) : List AOper := [
  ⟨0, .N .mv, [.n 0], none, 0⟩,
  ⟨1, .N (.bin .and), [.l 0, .c (.int .i64 65535)], none, 0⟩,
  ⟨2, .N .mv, [.n 2], none, 0⟩,
  ⟨3, .N (.bin .add), [.l 0, .c (.int .i64 1)], none, 0⟩,
  ⟨4, .N (.bin .rem), [.l 2, .l 0], none, 0⟩,
  ⟨5, .N .mv, [.l 0], none, 0⟩]
def r22_2 (φ : Nat → Nat) : List AOper := [
  ⟨0, .N .mv, [.c (.nils)], none, 0⟩]
def r22_3 (φ : Nat → Nat) : List AOper := [
  ⟨0, .N .mv, [.c (.int .i64 0)], none, 0⟩]
def r22_4 (φ : Nat → Nat) : List AOper := [
  ⟨0, .N .mv, [.n 5], none, 0⟩,
  ⟨1, .N .mv, [.n 1], none, 0⟩,
  ⟨2, .N .lenS, [.l 0], none, 0⟩,
  ⟨3, .N (.bin .lss), [.l 2, .l 0], none, 0⟩,
  ⟨4, .N .mv, [.l 0], none, 0⟩,
  ⟨5, .N .mv, [.n 5], some (.l 0, true), 0⟩,
  ⟨6, .N (.bin .lss), [.l 0, .c (.int .i64 300)], some (.l 1, true), 0⟩,
  ⟨7, .N .pick, [.l 2, .l 0, .c (.bool false)], none, 0⟩,
  ⟨8, .N .mv, [.l 0], none, 0⟩,
  ⟨9, .N .mv, [.n 0], some (.l 0, true), 0⟩,
  ⟨10, .N (.bin .gtr), [.l 0, .c (.int .i64 0)], some (.l 1, true), 0⟩,
  ⟨11, .N .pick, [.l 2, .l 0, .c (.bool false)], none, 0⟩]
def r22_5 (φ : Nat → Nat) : List AOper := [
  ⟨0, .N .mv, [.n 4], none, 0⟩,
  ⟨1, .N .mv, [.n 1], none, 0⟩,
  ⟨2, .N .mv, [.n 5], none, 0⟩,
  ⟨3, .N (.idx 2), [.l 1, .l 0], none, 6⟩,
  ⟨4, .N (.fadd 0), [.l 0], none, 14⟩,
  ⟨5, .N .load1, [.l 0], none, 30⟩,
  ⟨6, .N (.bin .and), [.l 0, .c (.int .i64 65535)], none, 62⟩,
  ⟨7, .N .mv, [.n 0], none, 0⟩,
  ⟨8, .N (.bin .rem), [.l 1, .l 0], none, 254⟩,
  ⟨9, .N .mv, [.n 1], none, 0⟩,
  ⟨10, .N .mv, [.n 5], none, 0⟩,
  ⟨11, .N (.idx 2), [.l 1, .l 0], none, 1536⟩,
  ⟨12, .N (.fadd 1), [.l 0], none, 3584⟩,
  ⟨13, .N .load1, [.l 0], none, 7680⟩,
  ⟨14, .N (.bin .and), [.l 0, .c (.int .i64 65535)], none, 15872⟩,
  ⟨15, .N .mv, [.n 0], none, 0⟩,
  ⟨16, .N (.bin .rem), [.l 1, .l 0], none, 65024⟩,
  ⟨17, .N (.build [.int .i64 0, .int .i64 0] [(0, 1), (1, 1)]), [.l 8, .l 0], none, 131070⟩,
  ⟨18, .N (.bsl [.int .i64 0, .int .i64 0] 1 2 [(0, 2)]), [.l 0], none, 262142⟩,
  ⟨19, .X (.app 2 16), [.l 18, .l 0], none, 524287⟩,
  ⟨20, .N .mv, [.l 0], none, 1048575⟩]
def r22_6 (φ : Nat → Nat) : List AOper := [
  ⟨0, .N .mv, [.n 5], none, 0⟩,
  ⟨1, .N (.bin .add), [.l 0, .c (.int .i64 1)], none, 0⟩,
  ⟨2, .N .mv, [.l 0], none, 0⟩]
def l22_7 (φ : Nat → Nat) : ACode := .seq (.seq (.reg false (r22_4 φ) [(7, 0)]) (.cond (.n 7) (.skip) (.exit 0))) (.seq (.block 1 (.reg true (r22_5 φ) [(4, 0)])) (.reg false (r22_6 φ) [(5, 0)]))
def r22_8 (φ : Nat → Nat) : List AOper := [
  ⟨0, .N .mv, [.n 0], none, 0⟩,
  ⟨1, .N .mv, [.n 4], none, 0⟩,
  ⟨2, .calli false (φ 2), [.l 1, .l 0], none, 0⟩,
  ⟨3, .N .mv, [.l 0], none, 0⟩,
  ⟨4, .N (.ext 0), [.l 0], none, 0⟩,
  ⟨5, .N (.ext 1), [.l 1], none, 0⟩,
  ⟨6, .N (.alloc [.int .i64 0, .nils]), [], none, 0⟩,
  ⟨7, .X (.store 2), [.l 0, .l 2], none, 0⟩,
  ⟨8, .N .mv, [.l 2], none, 0⟩]
def r22_9 (φ : Nat → Nat) : List AOper := [
  ⟨0, .N (.loadN 2), [.n 6], none, 0⟩,
  ⟨1, .X (.store 2), [.n 3, .l 0], none, 0⟩]
def b22 (φ : Nat → Nat) : ACode := .seq (.reg false (r22_0 φ) [(3, 0)]) (.seq (.reg false (r22_1 φ) [(0, 0)]) (.seq (.reg false (r22_2 φ) [(4, 0)]) (.seq (.seq (.reg false (r22_3 φ) [(5, 0)]) (.block 0 (.loop (l22_7 φ)))) (.seq (.reg false (r22_8 φ) [(6, 2)]) (.seq (.reg false (r22_9 φ) []) (.ret))))))
def f22 (φ : Nat → Nat) : AFn := ⟨3, [0, 1, 2, 6, 7, 8, 9, 27], 57, b22 φ, [.cell 3 (some 2)]⟩
/-! 23: carcanet/carcanetref03.SameEdges: 0:a 1:b 2: 3:i 4: 5: 6: -/
def r23_0 (φ : Nat → Nat) : List AOper := [
  ⟨0, .N .mv, [.c (.bool false)], none, 0⟩]
def r23_1 (φ : Nat → Nat) : List AOper := [
  ⟨0, .N .mv, [.n 0], none, 0⟩,
  ⟨1, .N .lenS, [.l 0], none, 0⟩,
  ⟨2, .N .mv, [.n 1], none, 0⟩,
  ⟨3, .N .lenS, [.l 0], none, 0⟩,
  ⟨4, .N (.bin .neq), [.l 2, .l 0], none, 0⟩]
def r23_2 (φ : Nat → Nat) : List AOper := [
  ⟨0, .N .mv, [.c (.bool false)], none, 0⟩]
def r23_3 (φ : Nat → Nat) : List AOper := [
  ⟨0, .N .mv, [.c (.int .i64 0)], none, 0⟩]
def r23_4 (φ : Nat → Nat) : List AOper := [
  ⟨0, .N .mv, [.n 3], none, 0⟩,
  ⟨1, .N .mv, [.n 0], none, 0⟩,
  ⟨2, .N .lenS, [.l 0], none, 0⟩,
  ⟨3, .N (.bin .lss), [.l 2, .l 0], none, 0⟩]
def r23_5 (φ : Nat → Nat) : List AOper := [
  ⟨0, .N .mv, [.n 0], none, 0⟩,
  ⟨1, .N .mv, [.n 3], none, 0⟩,
  ⟨2, .N (.idx 2), [.l 1, .l 0], none, 3⟩,
  ⟨3, .N (.loadN 2), [.l 0], none, 7⟩,
  ⟨4, .N .mv, [.n 1], none, 0⟩,
  ⟨5, .N .mv, [.n 3], none, 0⟩,
  ⟨6, .N (.idx 2), [.l 1, .l 0], none, 48⟩,
  ⟨7, .N (.loadN 2), [.l 0], none, 112⟩,
  ⟨8, .N (.eqS [1, 1] true), [.l 4, .l 0], none, 255⟩]
def r23_6 (φ : Nat → Nat) : List AOper := [
  ⟨0, .N .mv, [.c (.bool false)], none, 0⟩]
def r23_7 (φ : Nat → Nat) : List AOper := [
  ⟨0, .N .mv, [.n 3], none, 0⟩,
  ⟨1, .N (.bin .add), [.l 0, .c (.int .i64 1)], none, 0⟩,
  ⟨2, .N .mv, [.l 0], none, 0⟩]
def l23_8 (φ : Nat → Nat) : ACode := .seq (.seq (.reg false (r23_4 φ) [(5, 0)]) (.cond (.n 5) (.skip) (.exit 0))) (.seq (.block 1 (.seq (.reg true (r23_5 φ) [(6, 0)]) (.cond (.n 6) (.seq (.reg false (r23_6 φ) [(2, 0)]) (.ret)) (.skip)))) (.reg false (r23_7 φ) [(3, 0)]))
def r23_9 (φ : Nat → Nat) : List AOper := [
  ⟨0, .N .mv, [.c (.bool true)], none, 0⟩]
def b23 (φ : Nat → Nat) : ACode := .seq (.reg false (r23_0 φ) [(2, 0)]) (.seq (.seq (.reg false (r23_1 φ) [(4, 0)]) (.cond (.n 4) (.seq (.reg false (r23_2 φ) [(2, 0)]) (.ret)) (.skip))) (.seq (.seq (.reg false (r23_3 φ) [(3, 0)]) (.block 0 (.loop (l23_8 φ)))) (.seq (.reg false (r23_9 φ) [(2, 0)]) (.ret))))
def f23 (φ : Nat → Nat) : AFn := ⟨2, [0, 1, 4, 5, 10, 14, 25], 26, b23 φ, [.t 2]⟩
/-! 25: carcanet/carcanetref03.In: 0:l 1:x 2: 3:i 4: 5: -/
def r25_0 (φ : Nat → Nat) : List AOper := [
  ⟨0, .N .mv, [.c (.bool false)], none, 0⟩]
def r25_1 (φ : Nat → Nat) : List AOper := [
  ⟨0, .N .mv, [.c (.int .i64 0)], none, 0⟩]
def r25_2 (φ : Nat → Nat) : List AOper := [
  ⟨0, .N .mv, [.n 3], none, 0⟩,
  ⟨1, .N .mv, [.n 0], none, 0⟩,
  ⟨2, .N .lenS, [.l 0], none, 0⟩,
  ⟨3, .N (.bin .lss), [.l 2, .l 0], none, 0⟩]
def r25_3 (φ : Nat → Nat) : List AOper := [
  ⟨0, .N .mv, [.n 0], none, 0⟩,
  ⟨1, .N .mv, [.n 3], none, 0⟩,
  ⟨2, .N (.idx 1), [.l 1, .l 0], none, 0⟩,
  ⟨3, .N .load1, [.l 0], none, 0⟩,
  ⟨4, .N .mv, [.n 1], none, 0⟩,
  ⟨5, .N (.bin .eql), [.l 1, .l 0], none, 0⟩]
def r25_4 (φ : Nat → Nat) : List AOper := [
  ⟨0, .N .mv, [.c (.bool true)], none, 0⟩]
def r25_5 (φ : Nat → Nat) : List AOper := [
  ⟨0, .N .mv, [.n 3], none, 0⟩,
  ⟨1, .N (.bin .add), [.l 0, .c (.int .i64 1)], none, 0⟩,
  ⟨2, .N .mv, [.l 0], none, 0⟩]
def l25_6 (φ : Nat → Nat) : ACode := .seq (.seq (.reg false (r25_2 φ) [(4, 0)]) (.cond (.n 4) (.skip) (.exit 0))) (.seq (.block 1 (.seq (.reg false (r25_3 φ) [(5, 0)]) (.cond (.n 5) (.seq (.reg false (r25_4 φ) [(2, 0)]) (.ret)) (.skip)))) (.reg false (r25_5 φ) [(3, 0)]))
def r25_7 (φ : Nat → Nat) : List AOper := [
  ⟨0, .N .mv, [.c (.bool false)], none, 0⟩]
def b25 (φ : Nat → Nat) : ACode := .seq (.reg false (r25_0 φ) [(2, 0)]) (.seq (.seq (.reg false (r25_1 φ) [(3, 0)]) (.block 0 (.loop (l25_6 φ)))) (.seq (.reg false (r25_7 φ) [(2, 0)]) (.ret)))
def f25 (φ : Nat → Nat) : AFn := ⟨2, [0, 1, 4, 5, 9, 17], 18, b25 φ, [.t 2]⟩
/-! 30: carcanet/carcanetref03.Sorted: 0:l 1: 2:out 3:i 4:at 5: 6: -/
def r30_0 (φ : Nat → Nat) : List AOper := [
  ⟨0, .N .mv, [.c (.nils)], none, 0⟩]
def r30_1 (φ : Nat → Nat) : List AOper := [
  ⟨0, .N (.bsl [.int .i64 0] 0 1 []), [], none, 0⟩,
  ⟨1, .N .mv, [.l 0], none, 0⟩]
def r30_2 (φ : Nat → Nat) : List AOper := [
  ⟨0, .N .mv, [.c (.int .i64 0)], none, 0⟩]
def r30_3 (φ : Nat → Nat) : List AOper := [
  ⟨0, .N .mv, [.n 3], none, 0⟩,
  ⟨1, .N .mv, [.n 0], none, 0⟩,
  ⟨2, .N .lenS, [.l 0], none, 0⟩,
  ⟨3, .N (.bin .lss), [.l 2, .l 0], none, 0⟩]
def r30_4 (φ : Nat → Nat) : List AOper := [
  ⟨0, .N .mv, [.n 2], none, 0⟩,
  ⟨1, .N .lenS, [.l 0], none, 0⟩,
  ⟨2, .N .mv, [.l 0], none, 0⟩]
def r30_5 (φ : Nat → Nat) : List AOper := [
  ⟨0, .N .mv, [.n 4], none, 0⟩,
  ⟨1, .N (.bin .gtr), [.l 0, .c (.int .i64 0)], none, 1⟩,
  ⟨2, .N .mv, [.l 0], none, 3⟩,
  ⟨3, .N .mv, [.n 2], some (.l 0, true), 7⟩,
  ⟨4, .N .mv, [.n 4], some (.l 1, true), 7⟩,
  ⟨5, .N (.bin .sub), [.l 0, .c (.int .i64 1)], some (.l 2, true), 23⟩,
  ⟨6, .N (.idx 1), [.l 2, .l 0], some (.l 3, true), 63⟩,
  ⟨7, .N .load1, [.l 0], some (.l 4, true), 127⟩,
  ⟨8, .N .mv, [.n 0], some (.l 5, true), 7⟩,
  ⟨9, .N .mv, [.n 3], some (.l 6, true), 7⟩,
  ⟨10, .N (.idx 1), [.l 1, .l 0], some (.l 7, true), 775⟩,
  ⟨11, .N .load1, [.l 0], some (.l 8, true), 1799⟩,
  ⟨12, .N (.bin .gtr), [.l 4, .l 0], some (.l 9, true), 4095⟩,
  ⟨13, .N .pick, [.l 10, .l 0, .c (.bool false)], none, 8191⟩]
def r30_6 (φ : Nat → Nat) : List AOper := [
  ⟨0, .N .mv, [.n 4], none, 0⟩,
  ⟨1, .N (.bin .sub), [.l 0, .c (.int .i64 1)], none, 0⟩,
  ⟨2, .N .mv, [.l 0], none, 0⟩]
def l30_7 (φ : Nat → Nat) : ACode := .seq (.seq (.reg true (r30_5 φ) [(6, 0)]) (.cond (.n 6) (.skip) (.exit 2))) (.block 3 (.reg false (r30_6 φ) [(4, 0)]))
def r30_8 (φ : Nat → Nat) : List AOper := [
  ⟨0, .N .mv, [.n 2], none, 0⟩,
  ⟨1, .N (.bsl [.int .i64 0] 1 1 [(0, 1)]), [.c (.int .i64 0)], none, 0⟩,
  ⟨2, .X (.app 1 8), [.l 1, .l 0], none, 0⟩,
  ⟨3, .N .mv, [.l 0], none, 0⟩]
def r30_9 (φ : Nat → Nat) : List AOper := [
  ⟨0, .N .mv, [.n 2], none, 0⟩,
  ⟨1, .N .mv, [.n 4], none, 0⟩,
  ⟨2, .N (.bin .add), [.l 0, .c (.int .i64 1)], none, 2⟩,
  ⟨3, .N (.slc 1 true false false), [.l 2, .l 0], none, 7⟩,
  ⟨4, .N .mv, [.n 2], none, 0⟩,
  ⟨5, .N .mv, [.n 4], none, 0⟩,
  ⟨6, .N (.slc 1 true false false), [.l 1, .l 0], none, 48⟩,
  ⟨7, .X (.copy 1), [.l 3, .l 0], none, 127⟩]
def r30_10 (φ : Nat → Nat) : List AOper := [
  ⟨0, .N .mv, [.n 2], none, 0⟩,
  ⟨1, .N .mv, [.n 4], none, 0⟩,
  ⟨2, .N .mv, [.n 0], none, 0⟩,
  ⟨3, .N .mv, [.n 3], none, 0⟩,
  ⟨4, .N (.idx 1), [.l 1, .l 0], none, 0⟩,
  ⟨5, .N .load1, [.l 0], none, 0⟩,
  ⟨6, .N (.idx 1), [.l 5, .l 4], none, 0⟩,
  ⟨7, .X (.store 1), [.l 0, .l 1], none, 0⟩]
def r30_11 (φ : Nat → Nat) : List AOper := [
  ⟨0, .N .mv, [.n 3], none, 0⟩,
  ⟨1, .N (.bin .add), [.l 0, .c (.int .i64 1)], none, 0⟩,
  ⟨2, .N .mv, [.l 0], none, 0⟩]
def l30_12 (φ : Nat → Nat) : ACode := .seq (.seq (.reg false (r30_3 φ) [(5, 0)]) (.cond (.n 5) (.skip) (.exit 0))) (.seq (.block 1 (.seq (.reg false (r30_4 φ) [(4, 0)]) (.seq (.block 2 (.loop (l30_7 φ))) (.seq (.reg false (r30_8 φ) [(2, 0)]) (.seq (.reg true (r30_9 φ) []) (.reg false (r30_10 φ) [])))))) (.reg false (r30_11 φ) [(3, 0)]))
def r30_13 (φ : Nat → Nat) : List AOper := [
  ⟨0, .N .mv, [.n 2], none, 0⟩,
  ⟨1, .N .mv, [.l 0], none, 0⟩]
def b30 (φ : Nat → Nat) : ACode := .seq (.reg false (r30_0 φ) [(1, 0)]) (.seq (.reg false (r30_1 φ) [(2, 0)]) (.seq (.seq (.reg false (r30_2 φ) [(3, 0)]) (.block 0 (.loop (l30_12 φ)))) (.seq (.reg false (r30_13 φ) [(1, 0)]) (.ret))))
def f30 (φ : Nat → Nat) : AFn := ⟨1, [0, 2, 3, 4, 5, 10, 28], 50, b30 φ, [.t 1]⟩
/-! 39: carcanet/carcanetref03.Of: 0:x 1:most 2:x 3: -/
def r39_0 (φ : Nat → Nat) : List AOper := [
  ⟨0, .N .box, [.n 0], none, 0⟩,
  ⟨1, .N (.alloc [.int .i64 0, .nils]), [], none, 0⟩]
def r39_1 (φ : Nat → Nat) : List AOper := [
  ⟨0, .N (.fadd 0), [.n 2], none, 0⟩,
  ⟨1, .N .load1, [.l 0], none, 0⟩,
  ⟨2, .N (.fadd 1), [.n 2], none, 0⟩,
  ⟨3, .N .load1, [.l 0], none, 0⟩,
  ⟨4, .N .mv, [.n 1], none, 0⟩,
  ⟨5, .calli false (φ 22), [.l 3, .l 1, .l 0], none, 0⟩,
  ⟨6, .X (.store 2), [.n 3, .l 0], none, 0⟩]
def b39 (φ : Nat → Nat) : ACode := .seq (.reg false (r39_0 φ) [(2, 1), (3, 0)]) (.seq (.reg false (r39_1 φ) []) (.ret))
def f39 (φ : Nat → Nat) : AFn := ⟨2, [0, 1, 2, 4], 11, b39 φ, [.cell 3 (some 2)]⟩
/-! 70: carcanet/carcanetref03.SameRows: 0:a 1:b 2: 3:i 4: 5: 6: -/
def r70_0 (φ : Nat → Nat) : List AOper := [
  ⟨0, .N .mv, [.c (.bool false)], none, 0⟩]
def r70_1 (φ : Nat → Nat) : List AOper := [
  ⟨0, .N .mv, [.n 0], none, 0⟩,
  ⟨1, .N .lenS, [.l 0], none, 0⟩,
  ⟨2, .N .mv, [.n 1], none, 0⟩,
  ⟨3, .N .lenS, [.l 0], none, 0⟩,
  ⟨4, .N (.bin .neq), [.l 2, .l 0], none, 0⟩]
def r70_2 (φ : Nat → Nat) : List AOper := [
  ⟨0, .N .mv, [.c (.bool false)], none, 0⟩]
def r70_3 (φ : Nat → Nat) : List AOper := [
  ⟨0, .N .mv, [.c (.int .i64 0)], none, 0⟩]
def r70_4 (φ : Nat → Nat) : List AOper := [
  ⟨0, .N .mv, [.n 3], none, 0⟩,
  ⟨1, .N .mv, [.n 0], none, 0⟩,
  ⟨2, .N .lenS, [.l 0], none, 0⟩,
  ⟨3, .N (.bin .lss), [.l 2, .l 0], none, 0⟩]
def r70_5 (φ : Nat → Nat) : List AOper := [
  ⟨0, .N .mv, [.n 0], none, 0⟩,
  ⟨1, .N .mv, [.n 3], none, 0⟩,
  ⟨2, .N (.idx 1), [.l 1, .l 0], none, 3⟩,
  ⟨3, .N .load1, [.l 0], none, 7⟩,
  ⟨4, .N .mv, [.n 1], none, 0⟩,
  ⟨5, .N .mv, [.n 3], none, 0⟩,
  ⟨6, .N (.idx 1), [.l 1, .l 0], none, 48⟩,
  ⟨7, .N .load1, [.l 0], none, 112⟩,
  ⟨8, .calli true (φ 11), [.l 4, .l 0], none, 255⟩,
  ⟨9, .N (.un .not), [.l 0], none, 511⟩]
def r70_6 (φ : Nat → Nat) : List AOper := [
  ⟨0, .N .mv, [.c (.bool false)], none, 0⟩]
def r70_7 (φ : Nat → Nat) : List AOper := [
  ⟨0, .N .mv, [.n 3], none, 0⟩,
  ⟨1, .N (.bin .add), [.l 0, .c (.int .i64 1)], none, 0⟩,
  ⟨2, .N .mv, [.l 0], none, 0⟩]
def l70_8 (φ : Nat → Nat) : ACode := .seq (.seq (.reg false (r70_4 φ) [(5, 0)]) (.cond (.n 5) (.skip) (.exit 0))) (.seq (.block 1 (.seq (.reg true (r70_5 φ) [(6, 0)]) (.cond (.n 6) (.seq (.reg false (r70_6 φ) [(2, 0)]) (.ret)) (.skip)))) (.reg false (r70_7 φ) [(3, 0)]))
def r70_9 (φ : Nat → Nat) : List AOper := [
  ⟨0, .N .mv, [.c (.bool true)], none, 0⟩]
def b70 (φ : Nat → Nat) : ACode := .seq (.reg false (r70_0 φ) [(2, 0)]) (.seq (.seq (.reg false (r70_1 φ) [(4, 0)]) (.cond (.n 4) (.seq (.reg false (r70_2 φ) [(2, 0)]) (.ret)) (.skip))) (.seq (.seq (.reg false (r70_3 φ) [(3, 0)]) (.block 0 (.loop (l70_8 φ)))) (.seq (.reg false (r70_9 φ) [(2, 0)]) (.ret))))
def f70 (φ : Nat → Nat) : AFn := ⟨2, [0, 1, 4, 5, 10, 14, 26], 27, b70 φ, [.t 2]⟩
end Go.Ai.G
namespace Go.Ai.G
open Go.Ai
set_option maxRecDepth 100000
set_option linter.unusedSimpArgs false
set_option linter.unusedVariables false
variable {A : AProg} {φ : Nat → Nat}
theorem er37_0 (φ : Nat → Nat) : r37_0 φ = [
  ⟨0, .N .mv, [.c (.bool false)], none, 0⟩] := Eq.trans rfl rfl
theorem er37_1 (φ : Nat → Nat) : r37_1 φ = [
  ⟨0, .N .mv, [.n 0], none, 0⟩,
  ⟨1, .N .mv, [.n 0], none, 0⟩,
  ⟨2, .N (.bin .neq), [.l 1, .l 0], none, 0⟩,
  ⟨3, .N .mv, [.l 0], none, 0⟩] := Eq.trans rfl rfl
theorem er35_0 (φ : Nat → Nat) : r35_0 φ = [
  ⟨0, .N .mv, [.c (.int .i64 0)], none, 0⟩] := Eq.trans rfl rfl
theorem er35_1 (φ : Nat → Nat) : r35_1 φ = [
  ⟨0, .N .mv, [.n 0], none, 0⟩,
  ⟨1, .calli true (φ 37), [.l 0], none, 0⟩,
  ⟨2, .N .mv, [.l 0], none, 0⟩] := Eq.trans rfl rfl
theorem er35_2 (φ : Nat → Nat) : r35_2 φ = [
  ⟨0, .N .mv, [.n 1], none, 0⟩,
  ⟨1, .calli true (φ 37), [.l 0], none, 0⟩,
  ⟨2, .N .mv, [.l 0], none, 0⟩] := Eq.trans rfl rfl
theorem er35_3 (φ : Nat → Nat) : r35_3 φ = [
  ⟨0, .N .mv, [.n 3], none, 0⟩] := Eq.trans rfl rfl
theorem er35_4 (φ : Nat → Nat) : r35_4 φ = [
  ⟨0, .N .mv, [.n 4], none, 0⟩] := Eq.trans rfl rfl
theorem er35_5 (φ : Nat → Nat) : r35_5 φ = [
  ⟨0, .N .mv, [.c (.int .i64 0)], none, 0⟩] := Eq.trans rfl rfl
theorem er35_6 (φ : Nat → Nat) : r35_6 φ = [
  ⟨0, .N .mv, [.c (.int .i64 (-1))], none, 0⟩] := Eq.trans rfl rfl
theorem er35_7 (φ : Nat → Nat) : r35_7 φ = [
  ⟨0, .N .mv, [.n 4], none, 0⟩] := Eq.trans rfl rfl
theorem er35_8 (φ : Nat → Nat) : r35_8 φ = [
  ⟨0, .N .mv, [.c (.int .i64 1)], none, 0⟩] := Eq.trans rfl rfl
theorem er35_9 (φ : Nat → Nat) : r35_9 φ = [
  ⟨0, .N .mv, [.n 0], none, 0⟩,
  ⟨1, .N .mv, [.n 1], none, 0⟩,
  ⟨2, .N (.bin .lss), [.l 1, .l 0], none, 0⟩] := Eq.trans rfl rfl
theorem er35_10 (φ : Nat → Nat) : r35_10 φ = [
  ⟨0, .N .mv, [.c (.int .i64 (-1))], none, 0⟩] := Eq.trans rfl rfl
theorem er35_11 (φ : Nat → Nat) : r35_11 φ = [
  ⟨0, .N .mv, [.n 0], none, 0⟩,
  ⟨1, .N .mv, [.n 1], none, 0⟩,
  ⟨2, .N (.bin .gtr), [.l 1, .l 0], none, 0⟩] := Eq.trans rfl rfl
theorem er35_12 (φ : Nat → Nat) : r35_12 φ = [
  ⟨0, .N .mv, [.c (.int .i64 1)], none, 0⟩] := Eq.trans rfl rfl
theorem er35_13 (φ : Nat → Nat) : r35_13 φ = [
  ⟨0, .N .mv, [.c (.int .i64 0)], none, 0⟩] := Eq.trans rfl rfl
theorem er36_0 (φ : Nat → Nat) : r36_0 φ = [
  ⟨0, .N .mv, [.c (.int .i64 0)], none, 0⟩] := Eq.trans rfl rfl
theorem er36_1 (φ : Nat → Nat) : r36_1 φ = [
  ⟨0, .N .mv, [.c (.int .i64 0)], none, 0⟩] := Eq.trans rfl rfl
theorem er36_2 (φ : Nat → Nat) : r36_2 φ = [
  ⟨0, .N .mv, [.n 0], none, 0⟩,
  ⟨1, .N .lenS, [.l 0], none, 0⟩,
  ⟨2, .N .mv, [.c (.int .i64 0)], none, 0⟩] := Eq.trans rfl rfl
theorem er36_3 (φ : Nat → Nat) : r36_3 φ = [
  ⟨0, .N (.bin .lss), [.n 6, .n 5], none, 0⟩] := Eq.trans rfl rfl
theorem er36_4 (φ : Nat → Nat) : r36_4 φ = [
  ⟨0, .N (.idx 1), [.n 4, .n 6], none, 0⟩,
  ⟨1, .N .load1, [.l 0], none, 0⟩,
  ⟨2, .N .mv, [.l 0], none, 0⟩] := Eq.trans rfl rfl
theorem er36_5 (φ : Nat → Nat) : r36_5 φ = [
  ⟨0, .N .mv, [.n 3], none, 0⟩,
  ⟨1, .N .mv, [.n 2], none, 0⟩,
  ⟨2, .N (.bin .neq), [.l 1, .l 0], none, 0⟩] := Eq.trans rfl rfl
theorem er36_6 (φ : Nat → Nat) : r36_6 φ = [
  ⟨0, .N .mv, [.n 3], none, 0⟩,
  ⟨1, .N .mv, [.l 0], none, 0⟩] := Eq.trans rfl rfl
theorem er36_7 (φ : Nat → Nat) : r36_7 φ = [
  ⟨0, .N (.bin .add), [.n 6, .c (.int .i64 1)], none, 0⟩,
  ⟨1, .N .mv, [.l 0], none, 0⟩] := Eq.trans rfl rfl
theorem er36_9 (φ : Nat → Nat) : r36_9 φ = [
  ⟨0, .N .mv, [.n 2], none, 0⟩,
  ⟨1, .N .mv, [.l 0], none, 0⟩] := Eq.trans rfl rfl
theorem er31_0 (φ : Nat → Nat) : r31_0 φ = [
  ⟨0, .N .box, [.n 0], none, 0⟩,
  ⟨1, .N .box, [.n 1], none, 0⟩,
  ⟨2, .N .mv, [.c (.int .i64 0)], none, 0⟩] := Eq.trans rfl rfl
theorem er31_1 (φ : Nat → Nat) : r31_1 φ = [
  ⟨0, .N (.fadd 0), [.n 2], none, 0⟩,
  ⟨1, .N .load1, [.l 0], none, 1⟩,
  ⟨2, .N (.fadd 0), [.n 3], none, 0⟩,
  ⟨3, .N .load1, [.l 0], none, 4⟩,
  ⟨5, .N (.fadd 1), [.n 2], none, 0⟩,
  ⟨6, .N .load1, [.l 0], none, 16⟩,
  ⟨7, .N (.fadd 1), [.n 3], none, 0⟩,
  ⟨8, .N .load1, [.l 0], none, 64⟩,
  ⟨4, .calli true (φ 35), [.l 6, .l 4], none, 15⟩,
  ⟨9, .calli true (φ 35), [.l 3, .l 1], none, 511⟩,
  ⟨10, .N (.bsl [.int .i64 0] 2 1 [(0, 1), (1, 1)]), [.l 1, .l 0], none, 1023⟩,
  ⟨11, .calli true (φ 36), [.l 0], none, 2047⟩,
  ⟨12, .N .mv, [.l 0], none, 4095⟩] := Eq.trans rfl rfl
theorem er29_0 (φ : Nat → Nat) : r29_0 φ = [
  ⟨0, .N .box, [.n 0], none, 0⟩,
  ⟨1, .N .box, [.n 1], none, 0⟩,
  ⟨2, .N .mv, [.c (.int .i64 0)], none, 0⟩] := Eq.trans rfl rfl
theorem er29_1 (φ : Nat → Nat) : r29_1 φ = [
  ⟨0, .N (.loadN 2), [.n 2], none, 0⟩,
  ⟨1, .N (.loadN 2), [.n 3], none, 0⟩,
  ⟨2, .calli true (φ 31), [.l 1, .l 0], none, 0⟩,
  ⟨3, .N .mv, [.l 0], none, 0⟩] := Eq.trans rfl rfl
theorem er4_0 (φ : Nat → Nat) : r4_0 φ = [
  ⟨0, .N .box, [.n 0], none, 0⟩,
  ⟨1, .N .mv, [.c (.bool false)], none, 0⟩] := Eq.trans rfl rfl
theorem er4_1 (φ : Nat → Nat) : r4_1 φ = [
  ⟨0, .N (.fadd 0), [.n 1], none, 0⟩,
  ⟨1, .N .load1, [.l 0], none, 0⟩,
  ⟨2, .N (.bin .lss), [.l 0, .c (.int .i64 0)], none, 0⟩,
  ⟨3, .N .mv, [.l 0], none, 0⟩,
  ⟨4, .N (.fadd 0), [.n 1], some (.l 0, false), 0⟩,
  ⟨5, .N .load1, [.l 0], some (.l 1, false), 0⟩,
  ⟨6, .N (.bin .gtr), [.l 0, .c (.int .i64 1000)], some (.l 2, false), 0⟩,
  ⟨7, .N .pick, [.l 3, .c (.bool true), .l 0], none, 0⟩,
  ⟨8, .N .mv, [.l 0], none, 0⟩,
  ⟨9, .N (.fadd 1), [.n 1], some (.l 0, false), 0⟩,
  ⟨10, .N .load1, [.l 0], some (.l 1, false), 0⟩,
  ⟨11, .N .lenS, [.l 0], some (.l 2, false), 0⟩,
  ⟨12, .N (.bin .gtr), [.l 0, .c (.int .i64 4000)], some (.l 3, false), 0⟩,
  ⟨13, .N .pick, [.l 4, .c (.bool true), .l 0], none, 0⟩] := Eq.trans rfl rfl
theorem er4_2 (φ : Nat → Nat) : r4_2 φ = [
  ⟨0, .N .mv, [.c (.bool false)], none, 0⟩] := Eq.trans rfl rfl
theorem er4_3 (φ : Nat → Nat) : r4_3 φ = [
  ⟨0, .N (.fadd 1), [.n 1], none, 0⟩,
  ⟨1, .N .load1, [.l 0], none, 0⟩,
  ⟨2, .N .lenS, [.l 0], none, 0⟩,
  ⟨3, .N .mv, [.c (.int .i64 0)], none, 0⟩] := Eq.trans rfl rfl
theorem er4_4 (φ : Nat → Nat) : r4_4 φ = [
  ⟨0, .N (.bin .lss), [.n 8, .n 7], none, 0⟩] := Eq.trans rfl rfl
theorem er4_5 (φ : Nat → Nat) : r4_5 φ = [
  ⟨0, .N .mv, [.n 8], none, 0⟩,
  ⟨1, .N (.idx 2), [.n 6, .n 8], none, 0⟩,
  ⟨2, .N (.loadN 2), [.l 0], none, 0⟩,
  ⟨3, .N (.alloc [.int .i64 0, .int .i64 0]), [], none, 0⟩,
  ⟨4, .N .mv, [.l 3], none, 0⟩,
  ⟨5, .X (.store 2), [.l 1, .l 2], none, 0⟩] := Eq.trans rfl rfl
theorem er4_6 (φ : Nat → Nat) : r4_6 φ = [
  ⟨0, .N (.fadd 0), [.n 4], none, 0⟩,
  ⟨1, .N .load1, [.l 0], none, 1⟩,
  ⟨2, .N (.bin .lss), [.l 0, .c (.int .i64 0)], none, 3⟩,
  ⟨3, .N .mv, [.l 0], none, 7⟩,
  ⟨4, .N (.fadd 0), [.n 4], some (.l 0, false), 15⟩,
  ⟨5, .N .load1, [.l 0], some (.l 1, false), 31⟩,
  ⟨6, .N (.fadd 1), [.n 4], some (.l 2, false), 15⟩,
  ⟨7, .N .load1, [.l 0], some (.l 3, false), 79⟩,
  ⟨8, .N (.bin .geq), [.l 2, .l 0], some (.l 4, false), 255⟩,
  ⟨9, .N .pick, [.l 5, .c (.bool true), .l 0], none, 511⟩,
  ⟨10, .N .mv, [.l 0], none, 1023⟩,
  ⟨11, .N (.fadd 1), [.n 4], some (.l 0, false), 2047⟩,
  ⟨12, .N .load1, [.l 0], some (.l 1, false), 4095⟩,
  ⟨13, .N (.fadd 0), [.n 1], some (.l 2, false), 2047⟩,
  ⟨14, .N .load1, [.l 0], some (.l 3, false), 10239⟩,
  ⟨15, .N (.bin .geq), [.l 2, .l 0], some (.l 4, false), 32767⟩,
  ⟨16, .N .pick, [.l 5, .c (.bool true), .l 0], none, 65535⟩,
  ⟨17, .N .mv, [.l 0], none, 131071⟩,
  ⟨18, .N .mv, [.n 3], some (.l 0, false), 262143⟩,
  ⟨19, .N (.bin .gtr), [.l 0, .c (.int .i64 0)], some (.l 1, false), 524287⟩,
  ⟨20, .N .mv, [.l 0], some (.l 2, false), 1048575⟩,
  ⟨21, .N (.fadd 1), [.n 1], some (.l 0, true), 2097151⟩,
  ⟨22, .N .load1, [.l 0], some (.l 1, true), 4194303⟩,
  ⟨23, .N .mv, [.n 3], some (.l 2, true), 2097151⟩,
  ⟨24, .N (.bin .sub), [.l 0, .c (.int .i64 1)], some (.l 3, true), 10485759⟩,
  ⟨25, .N (.idx 2), [.l 2, .l 0], some (.l 4, true), 33554431⟩,
  ⟨26, .N (.loadN 2), [.l 0], some (.l 5, true), 67108863⟩,
  ⟨27, .N (.loadN 2), [.n 4], some (.l 6, true), 2097151⟩,
  ⟨28, .calli true (φ 31), [.l 1, .l 0], some (.l 7, true), 268435455⟩,
  ⟨29, .N (.bin .geq), [.l 0, .c (.int .i64 0)], some (.l 8, true), 536870911⟩,
  ⟨30, .N .pick, [.l 9, .l 0, .c (.bool false)], some (.l 12, false), 1073741823⟩,
  ⟨31, .N .pick, [.l 13, .c (.bool true), .l 0], none, 2147483647⟩] := Eq.trans rfl rfl
theorem er4_7 (φ : Nat → Nat) : r4_7 φ = [
  ⟨0, .N .mv, [.c (.bool false)], none, 0⟩] := Eq.trans rfl rfl
theorem er4_8 (φ : Nat → Nat) : r4_8 φ = [
  ⟨0, .N (.bin .add), [.n 8, .c (.int .i64 1)], none, 0⟩,
  ⟨1, .N .mv, [.l 0], none, 0⟩] := Eq.trans rfl rfl
theorem er4_10 (φ : Nat → Nat) : r4_10 φ = [
  ⟨0, .N .mv, [.c (.bool true)], none, 0⟩] := Eq.trans rfl rfl
theorem w_isNaN (h : Has A (φ 37) (f37 φ)) (x : Int) : PVal A (φ 37) [.int .i64 x] (.bool false) := by
  refine pval_has h rfl ?_
  simp only [b37, f37]
  simp [↓getD_z, ↓getD_s, -List.getD_eq_getElem?_getD, -Int.ofNat_toNat, -getElem?_pos, gz, ↓hid_k, ↓hid_o, ↓hid_q, ↓hid_v, ↓PO_nil, ↓PO_none, ↓PO_grd, ↓PD_nil, ↓PD_none, ↓PD_grd, ↓PDO_N, ↓PDO_X, ↓PDO_call, ↓PDO_calli, ↓PDO_callv, PDX_free, PDX_eq, ↓PStep_N, ↓PStep_X, ↓PStep_call, ↓PStep_calli, PStep_callv, ↓PC_skip, ↓PC_lab, ↓PC_ret, ↓PC_exit, ↓PC_reg, ↓PC_draw, ↓PC_seq, ↓PC_block, ↓PC_loop, ↓PC_scope, ↓PC_cond, ↓thenC_norm, ↓thenC_ret, ↓thenC_exit, ↓blockC_norm, ↓blockC_ret, ↓blockC_exit, ↓loopC_norm, ↓loopC_ret, ↓loopC_exit, ↓endR_ret, ↓endR_norm, resK_none, resK_t, resK_tt, KNO_val, KNO_new, KNO_ite, KNO_map, KXO_some, KXO_ite, KVA_t, KVA_f, KG_skip, KG_tt, KG_ff, KG_tf, KG_ft, KB_true, KB_false, KNOD_val, KNOD_new, KNOD_ite, n_mv, n_pick, n_bin, n_eqB, n_eqN, n_eqS, n_un, n_conv, n_fadd, n_faddV, n_fld1, n_fldN, n_idx, n_idxA, n_idxV, n_idxAV, n_ext, n_lenS, n_lenS0, n_lenV, n_lenT, n_lenA, n_min, n_max, n_build, n_mkfn, n_slc, n_slc0, n_slcV, n_slcA, n_load1, n_loadN, n_load1V, n_loadNV, n_alloc, n_box, n_bsl, n_mksl, n_nilcP, n_nilcV, n_nilcI, n_nilcF, x_store, x_clear0, x_clear, b_add, b_sub, b_mul, b_eql, b_neq, b_lss, b_leq, b_gtr, b_geq, b_and16, unV, ntouch, gather, hide, unhide, evalOpd, applyOuts, int_bne, int_beq, ite_bool, ite_int, one_bool, cells_bool, one_int, cells_int, one_str, cells_str, one_nilp, cells_nilp, one_ptr, cells_ptr, one_nils, cells_nils, one_sl, cells_sl, one_nilf, cells_nilf, one_fn, cells_fn, one_nili, cells_nili, one_mp, cells_mp, one_nilm, cells_nilm, one_iface, cells_iface, one_vs, cells_vs, one_vp, cells_vp, cells_agg, Nat.testBit, setAt_1, setAt_2, closeds_nil, closeds_cons, closed_bool, closed_int, closed_str, closed_nilp, closed_nils, closed_nilm, closed_nilf, closed_nili, closed_agg, closed_tup, closed_vs, closed_vp, closed_iface, closed_fn, closeds_cI, closeds_cE, viewA_closed, viewR_closed, AV.scal, AV.scal0, fillA, repA, part_bool, part_int, part_str, part_nilp, part_ptr, part_nils, part_sl, part_nilm, part_mp, part_nilf, part_fn, part_nili, part_iface, part_agg, part_vs, part_vp, viewA_sl1, vaSl_cells, wrap_0, wrap_1, wrap_2, wrap_m1, set_last, get_last, er37_0, er37_1]
theorem w_cmp (h : Has A (φ 35) (f35 φ)) (h2 : Has A (φ 37) (f37 φ)) (x y : Int) : PVal A (φ 35) [.int .i64 x, .int .i64 y] (.int .i64 (cmpI x y)) := by
  refine pval_has h rfl ?_
  simp only [b35, f35]
  unfold cmpI
  by_cases h1 : x < y
  · simp [↓getD_z, ↓getD_s, -List.getD_eq_getElem?_getD, -Int.ofNat_toNat, -getElem?_pos, gz, ↓hid_k, ↓hid_o, ↓hid_q, ↓hid_v, ↓PO_nil, ↓PO_none, ↓PO_grd, ↓PD_nil, ↓PD_none, ↓PD_grd, ↓PDO_N, ↓PDO_X, ↓PDO_call, ↓PDO_calli, ↓PDO_callv, PDX_free, PDX_eq, ↓PStep_N, ↓PStep_X, ↓PStep_call, ↓PStep_calli, PStep_callv, ↓PC_skip, ↓PC_lab, ↓PC_ret, ↓PC_exit, ↓PC_reg, ↓PC_draw, ↓PC_seq, ↓PC_block, ↓PC_loop, ↓PC_scope, ↓PC_cond, ↓thenC_norm, ↓thenC_ret, ↓thenC_exit, ↓blockC_norm, ↓blockC_ret, ↓blockC_exit, ↓loopC_norm, ↓loopC_ret, ↓loopC_exit, ↓endR_ret, ↓endR_norm, resK_none, resK_t, resK_tt, KNO_val, KNO_new, KNO_ite, KNO_map, KXO_some, KXO_ite, KVA_t, KVA_f, KG_skip, KG_tt, KG_ff, KG_tf, KG_ft, KB_true, KB_false, KNOD_val, KNOD_new, KNOD_ite, n_mv, n_pick, n_bin, n_eqB, n_eqN, n_eqS, n_un, n_conv, n_fadd, n_faddV, n_fld1, n_fldN, n_idx, n_idxA, n_idxV, n_idxAV, n_ext, n_lenS, n_lenS0, n_lenV, n_lenT, n_lenA, n_min, n_max, n_build, n_mkfn, n_slc, n_slc0, n_slcV, n_slcA, n_load1, n_loadN, n_load1V, n_loadNV, n_alloc, n_box, n_bsl, n_mksl, n_nilcP, n_nilcV, n_nilcI, n_nilcF, x_store, x_clear0, x_clear, b_add, b_sub, b_mul, b_eql, b_neq, b_lss, b_leq, b_gtr, b_geq, b_and16, unV, ntouch, gather, hide, unhide, evalOpd, applyOuts, int_bne, int_beq, ite_bool, ite_int, one_bool, cells_bool, one_int, cells_int, one_str, cells_str, one_nilp, cells_nilp, one_ptr, cells_ptr, one_nils, cells_nils, one_sl, cells_sl, one_nilf, cells_nilf, one_fn, cells_fn, one_nili, cells_nili, one_mp, cells_mp, one_nilm, cells_nilm, one_iface, cells_iface, one_vs, cells_vs, one_vp, cells_vp, cells_agg, Nat.testBit, setAt_1, setAt_2, closeds_nil, closeds_cons, closed_bool, closed_int, closed_str, closed_nilp, closed_nils, closed_nilm, closed_nilf, closed_nili, closed_agg, closed_tup, closed_vs, closed_vp, closed_iface, closed_fn, closeds_cI, closeds_cE, viewA_closed, viewR_closed, AV.scal, AV.scal0, fillA, repA, part_bool, part_int, part_str, part_nilp, part_ptr, part_nils, part_sl, part_nilm, part_mp, part_nilf, part_fn, part_nili, part_iface, part_agg, part_vs, part_vp, viewA_sl1, vaSl_cells, wrap_0, wrap_1, wrap_2, wrap_m1, set_last, get_last, er35_0, er35_1, er35_2, er35_3, er35_4, er35_5, er35_6, er35_7, er35_8, er35_9, er35_10, er35_11, er35_12, er35_13, (w_isNaN h2 x).eq, (w_isNaN h2 y).eq, h1]
  · by_cases h3 : y < x <;> simp [↓getD_z, ↓getD_s, -List.getD_eq_getElem?_getD, -Int.ofNat_toNat, -getElem?_pos, gz, ↓hid_k, ↓hid_o, ↓hid_q, ↓hid_v, ↓PO_nil, ↓PO_none, ↓PO_grd, ↓PD_nil, ↓PD_none, ↓PD_grd, ↓PDO_N, ↓PDO_X, ↓PDO_call, ↓PDO_calli, ↓PDO_callv, PDX_free, PDX_eq, ↓PStep_N, ↓PStep_X, ↓PStep_call, ↓PStep_calli, PStep_callv, ↓PC_skip, ↓PC_lab, ↓PC_ret, ↓PC_exit, ↓PC_reg, ↓PC_draw, ↓PC_seq, ↓PC_block, ↓PC_loop, ↓PC_scope, ↓PC_cond, ↓thenC_norm, ↓thenC_ret, ↓thenC_exit, ↓blockC_norm, ↓blockC_ret, ↓blockC_exit, ↓loopC_norm, ↓loopC_ret, ↓loopC_exit, ↓endR_ret, ↓endR_norm, resK_none, resK_t, resK_tt, KNO_val, KNO_new, KNO_ite, KNO_map, KXO_some, KXO_ite, KVA_t, KVA_f, KG_skip, KG_tt, KG_ff, KG_tf, KG_ft, KB_true, KB_false, KNOD_val, KNOD_new, KNOD_ite, n_mv, n_pick, n_bin, n_eqB, n_eqN, n_eqS, n_un, n_conv, n_fadd, n_faddV, n_fld1, n_fldN, n_idx, n_idxA, n_idxV, n_idxAV, n_ext, n_lenS, n_lenS0, n_lenV, n_lenT, n_lenA, n_min, n_max, n_build, n_mkfn, n_slc, n_slc0, n_slcV, n_slcA, n_load1, n_loadN, n_load1V, n_loadNV, n_alloc, n_box, n_bsl, n_mksl, n_nilcP, n_nilcV, n_nilcI, n_nilcF, x_store, x_clear0, x_clear, b_add, b_sub, b_mul, b_eql, b_neq, b_lss, b_leq, b_gtr, b_geq, b_and16, unV, ntouch, gather, hide, unhide, evalOpd, applyOuts, int_bne, int_beq, ite_bool, ite_int, one_bool, cells_bool, one_int, cells_int, one_str, cells_str, one_nilp, cells_nilp, one_ptr, cells_ptr, one_nils, cells_nils, one_sl, cells_sl, one_nilf, cells_nilf, one_fn, cells_fn, one_nili, cells_nili, one_mp, cells_mp, one_nilm, cells_nilm, one_iface, cells_iface, one_vs, cells_vs, one_vp, cells_vp, cells_agg, Nat.testBit, setAt_1, setAt_2, closeds_nil, closeds_cons, closed_bool, closed_int, closed_str, closed_nilp, closed_nils, closed_nilm, closed_nilf, closed_nili, closed_agg, closed_tup, closed_vs, closed_vp, closed_iface, closed_fn, closeds_cI, closeds_cE, viewA_closed, viewR_closed, AV.scal, AV.scal0, fillA, repA, part_bool, part_int, part_str, part_nilp, part_ptr, part_nils, part_sl, part_nilm, part_mp, part_nilf, part_fn, part_nili, part_iface, part_agg, part_vs, part_vp, viewA_sl1, vaSl_cells, wrap_0, wrap_1, wrap_2, wrap_m1, set_last, get_last, er35_0, er35_1, er35_2, er35_3, er35_4, er35_5, er35_6, er35_7, er35_8, er35_9, er35_10, er35_11, er35_12, er35_13, (w_isNaN h2 x).eq, (w_isNaN h2 y).eq, h1, h3]
theorem w_Or (h : Has A (φ 36) (f36 φ)) (x y : Int) : PVal A (φ 36) [vI [x, y]] (.int .i64 (if x = 0 then y else x)) := by
  refine pval_has h rfl ?_
  simp only [l36_8, b36, f36]
  simp [↓getD_z, ↓getD_s, -List.getD_eq_getElem?_getD, -Int.ofNat_toNat, -getElem?_pos, gz, ↓hid_k, ↓hid_o, ↓hid_q, ↓hid_v, ↓PO_nil, ↓PO_none, ↓PO_grd, ↓PD_nil, ↓PD_none, ↓PD_grd, ↓PDO_N, ↓PDO_X, ↓PDO_call, ↓PDO_calli, ↓PDO_callv, PDX_free, PDX_eq, ↓PStep_N, ↓PStep_X, ↓PStep_call, ↓PStep_calli, PStep_callv, ↓PC_skip, ↓PC_lab, ↓PC_ret, ↓PC_exit, ↓PC_reg, ↓PC_draw, ↓PC_seq, ↓PC_block, ↓PC_loop, ↓PC_scope, ↓PC_cond, ↓thenC_norm, ↓thenC_ret, ↓thenC_exit, ↓blockC_norm, ↓blockC_ret, ↓blockC_exit, ↓loopC_norm, ↓loopC_ret, ↓loopC_exit, ↓endR_ret, ↓endR_norm, resK_none, resK_t, resK_tt, KNO_val, KNO_new, KNO_ite, KNO_map, KXO_some, KXO_ite, KVA_t, KVA_f, KG_skip, KG_tt, KG_ff, KG_tf, KG_ft, KB_true, KB_false, KNOD_val, KNOD_new, KNOD_ite, n_mv, n_pick, n_bin, n_eqB, n_eqN, n_eqS, n_un, n_conv, n_fadd, n_faddV, n_fld1, n_fldN, n_idx, n_idxA, n_idxV, n_idxAV, n_ext, n_lenS, n_lenS0, n_lenV, n_lenT, n_lenA, n_min, n_max, n_build, n_mkfn, n_slc, n_slc0, n_slcV, n_slcA, n_load1, n_loadN, n_load1V, n_loadNV, n_alloc, n_box, n_bsl, n_mksl, n_nilcP, n_nilcV, n_nilcI, n_nilcF, x_store, x_clear0, x_clear, b_add, b_sub, b_mul, b_eql, b_neq, b_lss, b_leq, b_gtr, b_geq, b_and16, unV, ntouch, gather, hide, unhide, evalOpd, applyOuts, int_bne, int_beq, ite_bool, ite_int, one_bool, cells_bool, one_int, cells_int, one_str, cells_str, one_nilp, cells_nilp, one_ptr, cells_ptr, one_nils, cells_nils, one_sl, cells_sl, one_nilf, cells_nilf, one_fn, cells_fn, one_nili, cells_nili, one_mp, cells_mp, one_nilm, cells_nilm, one_iface, cells_iface, one_vs, cells_vs, one_vp, cells_vp, cells_agg, Nat.testBit, setAt_1, setAt_2, closeds_nil, closeds_cons, closed_bool, closed_int, closed_str, closed_nilp, closed_nils, closed_nilm, closed_nilf, closed_nili, closed_agg, closed_tup, closed_vs, closed_vp, closed_iface, closed_fn, closeds_cI, closeds_cE, viewA_closed, viewR_closed, AV.scal, AV.scal0, fillA, repA, part_bool, part_int, part_str, part_nilp, part_ptr, part_nils, part_sl, part_nilm, part_mp, part_nilf, part_fn, part_nili, part_iface, part_agg, part_vs, part_vp, viewA_sl1, vaSl_cells, wrap_0, wrap_1, wrap_2, wrap_m1, set_last, get_last, er36_0, er36_1, er36_2, er36_3, er36_4, er36_5, er36_6, er36_7, er36_9, cI]
  refine pc_loopI (fun n st => ∃ (i : Nat) (p q r : AV), i + n = 2 ∧ (1 ≤ i → x = 0) ∧ (2 ≤ i → y = 0) ∧ st = ([vI [x, y], .int .i64 0, .int .i64 0, p, vI [x, y], .int .i64 2, .int .i64 i, q, r], [])) 2 ⟨0, _, _, _, rfl, by simp, by simp, rfl⟩ ?_
  rintro n st ⟨i, p, q, r, hi, hx, hy, rfl⟩
  have h3 : i = 0 ∨ i = 1 ∨ i = 2 := by omega
  rcases h3 with rfl | rfl | rfl
  · by_cases hx : x = 0
    · simp [↓getD_z, ↓getD_s, -List.getD_eq_getElem?_getD, -Int.ofNat_toNat, -getElem?_pos, gz, ↓hid_k, ↓hid_o, ↓hid_q, ↓hid_v, ↓PO_nil, ↓PO_none, ↓PO_grd, ↓PD_nil, ↓PD_none, ↓PD_grd, ↓PDO_N, ↓PDO_X, ↓PDO_call, ↓PDO_calli, ↓PDO_callv, PDX_free, PDX_eq, ↓PStep_N, ↓PStep_X, ↓PStep_call, ↓PStep_calli, PStep_callv, ↓PC_skip, ↓PC_lab, ↓PC_ret, ↓PC_exit, ↓PC_reg, ↓PC_draw, ↓PC_seq, ↓PC_block, ↓PC_loop, ↓PC_scope, ↓PC_cond, ↓thenC_norm, ↓thenC_ret, ↓thenC_exit, ↓blockC_norm, ↓blockC_ret, ↓blockC_exit, ↓loopC_norm, ↓loopC_ret, ↓loopC_exit, ↓endR_ret, ↓endR_norm, resK_none, resK_t, resK_tt, KNO_val, KNO_new, KNO_ite, KNO_map, KXO_some, KXO_ite, KVA_t, KVA_f, KG_skip, KG_tt, KG_ff, KG_tf, KG_ft, KB_true, KB_false, KNOD_val, KNOD_new, KNOD_ite, n_mv, n_pick, n_bin, n_eqB, n_eqN, n_eqS, n_un, n_conv, n_fadd, n_faddV, n_fld1, n_fldN, n_idx, n_idxA, n_idxV, n_idxAV, n_ext, n_lenS, n_lenS0, n_lenV, n_lenT, n_lenA, n_min, n_max, n_build, n_mkfn, n_slc, n_slc0, n_slcV, n_slcA, n_load1, n_loadN, n_load1V, n_loadNV, n_alloc, n_box, n_bsl, n_mksl, n_nilcP, n_nilcV, n_nilcI, n_nilcF, x_store, x_clear0, x_clear, b_add, b_sub, b_mul, b_eql, b_neq, b_lss, b_leq, b_gtr, b_geq, b_and16, unV, ntouch, gather, hide, unhide, evalOpd, applyOuts, int_bne, int_beq, ite_bool, ite_int, one_bool, cells_bool, one_int, cells_int, one_str, cells_str, one_nilp, cells_nilp, one_ptr, cells_ptr, one_nils, cells_nils, one_sl, cells_sl, one_nilf, cells_nilf, one_fn, cells_fn, one_nili, cells_nili, one_mp, cells_mp, one_nilm, cells_nilm, one_iface, cells_iface, one_vs, cells_vs, one_vp, cells_vp, cells_agg, Nat.testBit, setAt_1, setAt_2, closeds_nil, closeds_cons, closed_bool, closed_int, closed_str, closed_nilp, closed_nils, closed_nilm, closed_nilf, closed_nili, closed_agg, closed_tup, closed_vs, closed_vp, closed_iface, closed_fn, closeds_cI, closeds_cE, viewA_closed, viewR_closed, AV.scal, AV.scal0, fillA, repA, part_bool, part_int, part_str, part_nilp, part_ptr, part_nils, part_sl, part_nilm, part_mp, part_nilf, part_fn, part_nili, part_iface, part_agg, part_vs, part_vp, viewA_sl1, vaSl_cells, wrap_0, wrap_1, wrap_2, wrap_m1, set_last, get_last, er36_0, er36_1, er36_2, er36_3, er36_4, er36_5, er36_6, er36_7, er36_9, hx, cI]
      exact next_mk 1 (by omega) ⟨1, .int .i64 0, .bool true, .bool false, rfl, fun _ => hx, by omega, by simp [cI, hx]⟩
    · simp [↓getD_z, ↓getD_s, -List.getD_eq_getElem?_getD, -Int.ofNat_toNat, -getElem?_pos, gz, ↓hid_k, ↓hid_o, ↓hid_q, ↓hid_v, ↓PO_nil, ↓PO_none, ↓PO_grd, ↓PD_nil, ↓PD_none, ↓PD_grd, ↓PDO_N, ↓PDO_X, ↓PDO_call, ↓PDO_calli, ↓PDO_callv, PDX_free, PDX_eq, ↓PStep_N, ↓PStep_X, ↓PStep_call, ↓PStep_calli, PStep_callv, ↓PC_skip, ↓PC_lab, ↓PC_ret, ↓PC_exit, ↓PC_reg, ↓PC_draw, ↓PC_seq, ↓PC_block, ↓PC_loop, ↓PC_scope, ↓PC_cond, ↓thenC_norm, ↓thenC_ret, ↓thenC_exit, ↓blockC_norm, ↓blockC_ret, ↓blockC_exit, ↓loopC_norm, ↓loopC_ret, ↓loopC_exit, ↓endR_ret, ↓endR_norm, resK_none, resK_t, resK_tt, KNO_val, KNO_new, KNO_ite, KNO_map, KXO_some, KXO_ite, KVA_t, KVA_f, KG_skip, KG_tt, KG_ff, KG_tf, KG_ft, KB_true, KB_false, KNOD_val, KNOD_new, KNOD_ite, n_mv, n_pick, n_bin, n_eqB, n_eqN, n_eqS, n_un, n_conv, n_fadd, n_faddV, n_fld1, n_fldN, n_idx, n_idxA, n_idxV, n_idxAV, n_ext, n_lenS, n_lenS0, n_lenV, n_lenT, n_lenA, n_min, n_max, n_build, n_mkfn, n_slc, n_slc0, n_slcV, n_slcA, n_load1, n_loadN, n_load1V, n_loadNV, n_alloc, n_box, n_bsl, n_mksl, n_nilcP, n_nilcV, n_nilcI, n_nilcF, x_store, x_clear0, x_clear, b_add, b_sub, b_mul, b_eql, b_neq, b_lss, b_leq, b_gtr, b_geq, b_and16, unV, ntouch, gather, hide, unhide, evalOpd, applyOuts, int_bne, int_beq, ite_bool, ite_int, one_bool, cells_bool, one_int, cells_int, one_str, cells_str, one_nilp, cells_nilp, one_ptr, cells_ptr, one_nils, cells_nils, one_sl, cells_sl, one_nilf, cells_nilf, one_fn, cells_fn, one_nili, cells_nili, one_mp, cells_mp, one_nilm, cells_nilm, one_iface, cells_iface, one_vs, cells_vs, one_vp, cells_vp, cells_agg, Nat.testBit, setAt_1, setAt_2, closeds_nil, closeds_cons, closed_bool, closed_int, closed_str, closed_nilp, closed_nils, closed_nilm, closed_nilf, closed_nili, closed_agg, closed_tup, closed_vs, closed_vp, closed_iface, closed_fn, closeds_cI, closeds_cE, viewA_closed, viewR_closed, AV.scal, AV.scal0, fillA, repA, part_bool, part_int, part_str, part_nilp, part_ptr, part_nils, part_sl, part_nilm, part_mp, part_nilf, part_fn, part_nili, part_iface, part_agg, part_vs, part_vp, viewA_sl1, vaSl_cells, wrap_0, wrap_1, wrap_2, wrap_m1, set_last, get_last, er36_0, er36_1, er36_2, er36_3, er36_4, er36_5, er36_6, er36_7, er36_9, hx, cI]
  · simp at hx
    by_cases hy : y = 0
    · simp [hx, hy, ↓getD_z, ↓getD_s, -List.getD_eq_getElem?_getD, -Int.ofNat_toNat, -getElem?_pos, gz, ↓hid_k, ↓hid_o, ↓hid_q, ↓hid_v, ↓PO_nil, ↓PO_none, ↓PO_grd, ↓PD_nil, ↓PD_none, ↓PD_grd, ↓PDO_N, ↓PDO_X, ↓PDO_call, ↓PDO_calli, ↓PDO_callv, PDX_free, PDX_eq, ↓PStep_N, ↓PStep_X, ↓PStep_call, ↓PStep_calli, PStep_callv, ↓PC_skip, ↓PC_lab, ↓PC_ret, ↓PC_exit, ↓PC_reg, ↓PC_draw, ↓PC_seq, ↓PC_block, ↓PC_loop, ↓PC_scope, ↓PC_cond, ↓thenC_norm, ↓thenC_ret, ↓thenC_exit, ↓blockC_norm, ↓blockC_ret, ↓blockC_exit, ↓loopC_norm, ↓loopC_ret, ↓loopC_exit, ↓endR_ret, ↓endR_norm, resK_none, resK_t, resK_tt, KNO_val, KNO_new, KNO_ite, KNO_map, KXO_some, KXO_ite, KVA_t, KVA_f, KG_skip, KG_tt, KG_ff, KG_tf, KG_ft, KB_true, KB_false, KNOD_val, KNOD_new, KNOD_ite, n_mv, n_pick, n_bin, n_eqB, n_eqN, n_eqS, n_un, n_conv, n_fadd, n_faddV, n_fld1, n_fldN, n_idx, n_idxA, n_idxV, n_idxAV, n_ext, n_lenS, n_lenS0, n_lenV, n_lenT, n_lenA, n_min, n_max, n_build, n_mkfn, n_slc, n_slc0, n_slcV, n_slcA, n_load1, n_loadN, n_load1V, n_loadNV, n_alloc, n_box, n_bsl, n_mksl, n_nilcP, n_nilcV, n_nilcI, n_nilcF, x_store, x_clear0, x_clear, b_add, b_sub, b_mul, b_eql, b_neq, b_lss, b_leq, b_gtr, b_geq, b_and16, unV, ntouch, gather, hide, unhide, evalOpd, applyOuts, int_bne, int_beq, ite_bool, ite_int, one_bool, cells_bool, one_int, cells_int, one_str, cells_str, one_nilp, cells_nilp, one_ptr, cells_ptr, one_nils, cells_nils, one_sl, cells_sl, one_nilf, cells_nilf, one_fn, cells_fn, one_nili, cells_nili, one_mp, cells_mp, one_nilm, cells_nilm, one_iface, cells_iface, one_vs, cells_vs, one_vp, cells_vp, cells_agg, Nat.testBit, setAt_1, setAt_2, closeds_nil, closeds_cons, closed_bool, closed_int, closed_str, closed_nilp, closed_nils, closed_nilm, closed_nilf, closed_nili, closed_agg, closed_tup, closed_vs, closed_vp, closed_iface, closed_fn, closeds_cI, closeds_cE, viewA_closed, viewR_closed, AV.scal, AV.scal0, fillA, repA, part_bool, part_int, part_str, part_nilp, part_ptr, part_nils, part_sl, part_nilm, part_mp, part_nilf, part_fn, part_nili, part_iface, part_agg, part_vs, part_vp, viewA_sl1, vaSl_cells, wrap_0, wrap_1, wrap_2, wrap_m1, set_last, get_last, er36_0, er36_1, er36_2, er36_3, er36_4, er36_5, er36_6, er36_7, er36_9, cI]
      exact next_mk 0 (by omega) ⟨2, .int .i64 0, .bool true, .bool false, rfl, fun _ => hx, fun _ => hy, by simp [cI, hx, hy]⟩
    · simp [hx, hy, ↓getD_z, ↓getD_s, -List.getD_eq_getElem?_getD, -Int.ofNat_toNat, -getElem?_pos, gz, ↓hid_k, ↓hid_o, ↓hid_q, ↓hid_v, ↓PO_nil, ↓PO_none, ↓PO_grd, ↓PD_nil, ↓PD_none, ↓PD_grd, ↓PDO_N, ↓PDO_X, ↓PDO_call, ↓PDO_calli, ↓PDO_callv, PDX_free, PDX_eq, ↓PStep_N, ↓PStep_X, ↓PStep_call, ↓PStep_calli, PStep_callv, ↓PC_skip, ↓PC_lab, ↓PC_ret, ↓PC_exit, ↓PC_reg, ↓PC_draw, ↓PC_seq, ↓PC_block, ↓PC_loop, ↓PC_scope, ↓PC_cond, ↓thenC_norm, ↓thenC_ret, ↓thenC_exit, ↓blockC_norm, ↓blockC_ret, ↓blockC_exit, ↓loopC_norm, ↓loopC_ret, ↓loopC_exit, ↓endR_ret, ↓endR_norm, resK_none, resK_t, resK_tt, KNO_val, KNO_new, KNO_ite, KNO_map, KXO_some, KXO_ite, KVA_t, KVA_f, KG_skip, KG_tt, KG_ff, KG_tf, KG_ft, KB_true, KB_false, KNOD_val, KNOD_new, KNOD_ite, n_mv, n_pick, n_bin, n_eqB, n_eqN, n_eqS, n_un, n_conv, n_fadd, n_faddV, n_fld1, n_fldN, n_idx, n_idxA, n_idxV, n_idxAV, n_ext, n_lenS, n_lenS0, n_lenV, n_lenT, n_lenA, n_min, n_max, n_build, n_mkfn, n_slc, n_slc0, n_slcV, n_slcA, n_load1, n_loadN, n_load1V, n_loadNV, n_alloc, n_box, n_bsl, n_mksl, n_nilcP, n_nilcV, n_nilcI, n_nilcF, x_store, x_clear0, x_clear, b_add, b_sub, b_mul, b_eql, b_neq, b_lss, b_leq, b_gtr, b_geq, b_and16, unV, ntouch, gather, hide, unhide, evalOpd, applyOuts, int_bne, int_beq, ite_bool, ite_int, one_bool, cells_bool, one_int, cells_int, one_str, cells_str, one_nilp, cells_nilp, one_ptr, cells_ptr, one_nils, cells_nils, one_sl, cells_sl, one_nilf, cells_nilf, one_fn, cells_fn, one_nili, cells_nili, one_mp, cells_mp, one_nilm, cells_nilm, one_iface, cells_iface, one_vs, cells_vs, one_vp, cells_vp, cells_agg, Nat.testBit, setAt_1, setAt_2, closeds_nil, closeds_cons, closed_bool, closed_int, closed_str, closed_nilp, closed_nils, closed_nilm, closed_nilf, closed_nili, closed_agg, closed_tup, closed_vs, closed_vp, closed_iface, closed_fn, closeds_cI, closeds_cE, viewA_closed, viewR_closed, AV.scal, AV.scal0, fillA, repA, part_bool, part_int, part_str, part_nilp, part_ptr, part_nils, part_sl, part_nilm, part_mp, part_nilf, part_fn, part_nili, part_iface, part_agg, part_vs, part_vp, viewA_sl1, vaSl_cells, wrap_0, wrap_1, wrap_2, wrap_m1, set_last, get_last, er36_0, er36_1, er36_2, er36_3, er36_4, er36_5, er36_6, er36_7, er36_9, cI]
  · simp at hx hy
    simp [hx, hy, ↓getD_z, ↓getD_s, -List.getD_eq_getElem?_getD, -Int.ofNat_toNat, -getElem?_pos, gz, ↓hid_k, ↓hid_o, ↓hid_q, ↓hid_v, ↓PO_nil, ↓PO_none, ↓PO_grd, ↓PD_nil, ↓PD_none, ↓PD_grd, ↓PDO_N, ↓PDO_X, ↓PDO_call, ↓PDO_calli, ↓PDO_callv, PDX_free, PDX_eq, ↓PStep_N, ↓PStep_X, ↓PStep_call, ↓PStep_calli, PStep_callv, ↓PC_skip, ↓PC_lab, ↓PC_ret, ↓PC_exit, ↓PC_reg, ↓PC_draw, ↓PC_seq, ↓PC_block, ↓PC_loop, ↓PC_scope, ↓PC_cond, ↓thenC_norm, ↓thenC_ret, ↓thenC_exit, ↓blockC_norm, ↓blockC_ret, ↓blockC_exit, ↓loopC_norm, ↓loopC_ret, ↓loopC_exit, ↓endR_ret, ↓endR_norm, resK_none, resK_t, resK_tt, KNO_val, KNO_new, KNO_ite, KNO_map, KXO_some, KXO_ite, KVA_t, KVA_f, KG_skip, KG_tt, KG_ff, KG_tf, KG_ft, KB_true, KB_false, KNOD_val, KNOD_new, KNOD_ite, n_mv, n_pick, n_bin, n_eqB, n_eqN, n_eqS, n_un, n_conv, n_fadd, n_faddV, n_fld1, n_fldN, n_idx, n_idxA, n_idxV, n_idxAV, n_ext, n_lenS, n_lenS0, n_lenV, n_lenT, n_lenA, n_min, n_max, n_build, n_mkfn, n_slc, n_slc0, n_slcV, n_slcA, n_load1, n_loadN, n_load1V, n_loadNV, n_alloc, n_box, n_bsl, n_mksl, n_nilcP, n_nilcV, n_nilcI, n_nilcF, x_store, x_clear0, x_clear, b_add, b_sub, b_mul, b_eql, b_neq, b_lss, b_leq, b_gtr, b_geq, b_and16, unV, ntouch, gather, hide, unhide, evalOpd, applyOuts, int_bne, int_beq, ite_bool, ite_int, one_bool, cells_bool, one_int, cells_int, one_str, cells_str, one_nilp, cells_nilp, one_ptr, cells_ptr, one_nils, cells_nils, one_sl, cells_sl, one_nilf, cells_nilf, one_fn, cells_fn, one_nili, cells_nili, one_mp, cells_mp, one_nilm, cells_nilm, one_iface, cells_iface, one_vs, cells_vs, one_vp, cells_vp, cells_agg, Nat.testBit, setAt_1, setAt_2, closeds_nil, closeds_cons, closed_bool, closed_int, closed_str, closed_nilp, closed_nils, closed_nilm, closed_nilf, closed_nili, closed_agg, closed_tup, closed_vs, closed_vp, closed_iface, closed_fn, closeds_cI, closeds_cE, viewA_closed, viewR_closed, AV.scal, AV.scal0, fillA, repA, part_bool, part_int, part_str, part_nilp, part_ptr, part_nils, part_sl, part_nilm, part_mp, part_nilf, part_fn, part_nili, part_iface, part_agg, part_vs, part_vp, viewA_sl1, vaSl_cells, wrap_0, wrap_1, wrap_2, wrap_m1, set_last, get_last, er36_0, er36_1, er36_2, er36_3, er36_4, er36_5, er36_6, er36_7, er36_9, cI]
abbrev gE (x : Ed) : AV := .agg (aE x)
theorem w_compare (h : Has A (φ 31) (f31 φ)) (h1 : Has A (φ 35) (f35 φ)) (h2 : Has A (φ 37) (f37 φ)) (h3 : Has A (φ 36) (f36 φ)) (x y : Ed) :
    PVal A (φ 31) [gE x, gE y] (.int .i64 (cmpE x y)) := by
  refine pval_has h rfl ?_
  simp only [b31, f31]
  have e := (w_Or h3 (cmpI x.1 y.1) (cmpI x.2 y.2)).eq
  simp only [vI, cI, List.map_cons, List.map_nil, List.length_cons, List.length_nil, Nat.zero_add, Nat.reduceAdd] at e
  simp [↓getD_z, ↓getD_s, -List.getD_eq_getElem?_getD, -Int.ofNat_toNat, -getElem?_pos, gz, ↓hid_k, ↓hid_o, ↓hid_q, ↓hid_v, ↓PO_nil, ↓PO_none, ↓PO_grd, ↓PD_nil, ↓PD_none, ↓PD_grd, ↓PDO_N, ↓PDO_X, ↓PDO_call, ↓PDO_calli, ↓PDO_callv, PDX_free, PDX_eq, ↓PStep_N, ↓PStep_X, ↓PStep_call, ↓PStep_calli, PStep_callv, ↓PC_skip, ↓PC_lab, ↓PC_ret, ↓PC_exit, ↓PC_reg, ↓PC_draw, ↓PC_seq, ↓PC_block, ↓PC_loop, ↓PC_scope, ↓PC_cond, ↓thenC_norm, ↓thenC_ret, ↓thenC_exit, ↓blockC_norm, ↓blockC_ret, ↓blockC_exit, ↓loopC_norm, ↓loopC_ret, ↓loopC_exit, ↓endR_ret, ↓endR_norm, resK_none, resK_t, resK_tt, KNO_val, KNO_new, KNO_ite, KNO_map, KXO_some, KXO_ite, KVA_t, KVA_f, KG_skip, KG_tt, KG_ff, KG_tf, KG_ft, KB_true, KB_false, KNOD_val, KNOD_new, KNOD_ite, n_mv, n_pick, n_bin, n_eqB, n_eqN, n_eqS, n_un, n_conv, n_fadd, n_faddV, n_fld1, n_fldN, n_idx, n_idxA, n_idxV, n_idxAV, n_ext, n_lenS, n_lenS0, n_lenV, n_lenT, n_lenA, n_min, n_max, n_build, n_mkfn, n_slc, n_slc0, n_slcV, n_slcA, n_load1, n_loadN, n_load1V, n_loadNV, n_alloc, n_box, n_bsl, n_mksl, n_nilcP, n_nilcV, n_nilcI, n_nilcF, x_store, x_clear0, x_clear, b_add, b_sub, b_mul, b_eql, b_neq, b_lss, b_leq, b_gtr, b_geq, b_and16, unV, ntouch, gather, hide, unhide, evalOpd, applyOuts, int_bne, int_beq, ite_bool, ite_int, one_bool, cells_bool, one_int, cells_int, one_str, cells_str, one_nilp, cells_nilp, one_ptr, cells_ptr, one_nils, cells_nils, one_sl, cells_sl, one_nilf, cells_nilf, one_fn, cells_fn, one_nili, cells_nili, one_mp, cells_mp, one_nilm, cells_nilm, one_iface, cells_iface, one_vs, cells_vs, one_vp, cells_vp, cells_agg, Nat.testBit, setAt_1, setAt_2, closeds_nil, closeds_cons, closed_bool, closed_int, closed_str, closed_nilp, closed_nils, closed_nilm, closed_nilf, closed_nili, closed_agg, closed_tup, closed_vs, closed_vp, closed_iface, closed_fn, closeds_cI, closeds_cE, viewA_closed, viewR_closed, AV.scal, AV.scal0, fillA, repA, part_bool, part_int, part_str, part_nilp, part_ptr, part_nils, part_sl, part_nilm, part_mp, part_nilf, part_fn, part_nili, part_iface, part_agg, part_vs, part_vp, viewA_sl1, vaSl_cells, wrap_0, wrap_1, wrap_2, wrap_m1, set_last, get_last, er31_0, er31_1, (w_cmp h1 h2 _ _).eq, e, cmpE]
theorem w_Normal1 (h : Has A (φ 29) (f29 φ)) (hc : ∀ x y : Ed, PVal A (φ 31) [gE x, gE y] (.int .i64 (cmpE x y))) (x y : Ed) : PVal A (φ 29) [gE x, gE y] (.int .i64 (cmpE x y)) := by
  refine pval_has h rfl ?_
  simp only [b29, f29]
  simp [↓getD_z, ↓getD_s, -List.getD_eq_getElem?_getD, -Int.ofNat_toNat, -getElem?_pos, gz, ↓hid_k, ↓hid_o, ↓hid_q, ↓hid_v, ↓PO_nil, ↓PO_none, ↓PO_grd, ↓PD_nil, ↓PD_none, ↓PD_grd, ↓PDO_N, ↓PDO_X, ↓PDO_call, ↓PDO_calli, ↓PDO_callv, PDX_free, PDX_eq, ↓PStep_N, ↓PStep_X, ↓PStep_call, ↓PStep_calli, PStep_callv, ↓PC_skip, ↓PC_lab, ↓PC_ret, ↓PC_exit, ↓PC_reg, ↓PC_draw, ↓PC_seq, ↓PC_block, ↓PC_loop, ↓PC_scope, ↓PC_cond, ↓thenC_norm, ↓thenC_ret, ↓thenC_exit, ↓blockC_norm, ↓blockC_ret, ↓blockC_exit, ↓loopC_norm, ↓loopC_ret, ↓loopC_exit, ↓endR_ret, ↓endR_norm, resK_none, resK_t, resK_tt, KNO_val, KNO_new, KNO_ite, KNO_map, KXO_some, KXO_ite, KVA_t, KVA_f, KG_skip, KG_tt, KG_ff, KG_tf, KG_ft, KB_true, KB_false, KNOD_val, KNOD_new, KNOD_ite, n_mv, n_pick, n_bin, n_eqB, n_eqN, n_eqS, n_un, n_conv, n_fadd, n_faddV, n_fld1, n_fldN, n_idx, n_idxA, n_idxV, n_idxAV, n_ext, n_lenS, n_lenS0, n_lenV, n_lenT, n_lenA, n_min, n_max, n_build, n_mkfn, n_slc, n_slc0, n_slcV, n_slcA, n_load1, n_loadN, n_load1V, n_loadNV, n_alloc, n_box, n_bsl, n_mksl, n_nilcP, n_nilcV, n_nilcI, n_nilcF, x_store, x_clear0, x_clear, b_add, b_sub, b_mul, b_eql, b_neq, b_lss, b_leq, b_gtr, b_geq, b_and16, unV, ntouch, gather, hide, unhide, evalOpd, applyOuts, int_bne, int_beq, ite_bool, ite_int, one_bool, cells_bool, one_int, cells_int, one_str, cells_str, one_nilp, cells_nilp, one_ptr, cells_ptr, one_nils, cells_nils, one_sl, cells_sl, one_nilf, cells_nilf, one_fn, cells_fn, one_nili, cells_nili, one_mp, cells_mp, one_nilm, cells_nilm, one_iface, cells_iface, one_vs, cells_vs, one_vp, cells_vp, cells_agg, Nat.testBit, setAt_1, setAt_2, closeds_nil, closeds_cons, closed_bool, closed_int, closed_str, closed_nilp, closed_nils, closed_nilm, closed_nilf, closed_nili, closed_agg, closed_tup, closed_vs, closed_vp, closed_iface, closed_fn, closeds_cI, closeds_cE, viewA_closed, viewR_closed, AV.scal, AV.scal0, fillA, repA, part_bool, part_int, part_str, part_nilp, part_ptr, part_nils, part_sl, part_nilm, part_mp, part_nilf, part_fn, part_nili, part_iface, part_agg, part_vs, part_vp, viewA_sl1, vaSl_cells, wrap_0, wrap_1, wrap_2, wrap_m1, set_last, get_last, er29_0, er29_1, (hc _ _).eq]
def stepE (n : Int) (es : List Ed) (i : Nat) : Bool := decide (0 ≤ (es.getD i (0, 0)).1) && decide ((es.getD i (0, 0)).1 < (es.getD i (0, 0)).2) && decide ((es.getD i (0, 0)).2 < n) && (i == 0 || decide (cmpE (es.getD (i - 1) (0, 0)) (es.getD i (0, 0)) < 0))
def rightE (n : Int) (es : List Ed) : Bool := decide (0 ≤ n ∧ n ≤ 1000 ∧ es.length ≤ 4000) && (List.range es.length).all (stepE n es)
theorem right_false {n : Int} {l : List Ed} {j : Nat} (hj : j < l.length) (h : stepE n l j = false) : rightE n l = false := by
  unfold rightE
  rw [Bool.and_eq_false_iff]
  right
  rw [List.all_eq_false]
  exact ⟨j, List.mem_range.2 hj, by simp [h]⟩
theorem right_true {n : Int} {l : List Ed} (h : 0 ≤ n ∧ n ≤ 1000 ∧ l.length ≤ 4000) (hs : ∀ i, i < l.length → stepE n l i = true) : rightE n l = true := by
  unfold rightE
  rw [Bool.and_eq_true]
  exact ⟨decide_eq_true h, List.all_eq_true.2 fun i hi => hs i (List.mem_range.1 hi)⟩
abbrev gV (n : Int) (v : AV) : AV := .agg [.int .i64 n, v]
set_option maxHeartbeats 1000000 in
theorem w_Right (h : Has A (φ 4) (f4 φ)) (hc : ∀ x y : Ed, PVal A (φ 31) [gE x, gE y] (.int .i64 (cmpE x y))) (n : Int) (v : AV) (es : List Ed) (hv : IsE v es) :
    PVal A (φ 4) [gV n v] (.bool (rightE n es)) := by
  have hlen := hv.len
  have hone := hv.one
  refine pval_has h rfl ?_
  simp only [l4_9, b4, f4]
  by_cases h0 : n < 0
  · have hf : rightE n es = false := by unfold rightE; simp; omega
    simp [↓getD_z, ↓getD_s, -List.getD_eq_getElem?_getD, -Int.ofNat_toNat, -getElem?_pos, gz, ↓hid_k, ↓hid_o, ↓hid_q, ↓hid_v, ↓PO_nil, ↓PO_none, ↓PO_grd, ↓PD_nil, ↓PD_none, ↓PD_grd, ↓PDO_N, ↓PDO_X, ↓PDO_call, ↓PDO_calli, ↓PDO_callv, PDX_free, PDX_eq, ↓PStep_N, ↓PStep_X, ↓PStep_call, ↓PStep_calli, PStep_callv, ↓PC_skip, ↓PC_lab, ↓PC_ret, ↓PC_exit, ↓PC_reg, ↓PC_draw, ↓PC_seq, ↓PC_block, ↓PC_loop, ↓PC_scope, ↓PC_cond, ↓thenC_norm, ↓thenC_ret, ↓thenC_exit, ↓blockC_norm, ↓blockC_ret, ↓blockC_exit, ↓loopC_norm, ↓loopC_ret, ↓loopC_exit, ↓endR_ret, ↓endR_norm, resK_none, resK_t, resK_tt, KNO_val, KNO_new, KNO_ite, KNO_map, KXO_some, KXO_ite, KVA_t, KVA_f, KG_skip, KG_tt, KG_ff, KG_tf, KG_ft, KB_true, KB_false, KNOD_val, KNOD_new, KNOD_ite, n_mv, n_pick, n_bin, n_eqB, n_eqN, n_eqS, n_un, n_conv, n_fadd, n_faddV, n_fld1, n_fldN, n_idx, n_idxA, n_idxV, n_idxAV, n_ext, n_lenS, n_lenS0, n_lenV, n_lenT, n_lenA, n_min, n_max, n_build, n_mkfn, n_slc, n_slc0, n_slcV, n_slcA, n_load1, n_loadN, n_load1V, n_loadNV, n_alloc, n_box, n_bsl, n_mksl, n_nilcP, n_nilcV, n_nilcI, n_nilcF, x_store, x_clear0, x_clear, b_add, b_sub, b_mul, b_eql, b_neq, b_lss, b_leq, b_gtr, b_geq, b_and16, unV, ntouch, gather, hide, unhide, evalOpd, applyOuts, int_bne, int_beq, ite_bool, ite_int, one_bool, cells_bool, one_int, cells_int, one_str, cells_str, one_nilp, cells_nilp, one_ptr, cells_ptr, one_nils, cells_nils, one_sl, cells_sl, one_nilf, cells_nilf, one_fn, cells_fn, one_nili, cells_nili, one_mp, cells_mp, one_nilm, cells_nilm, one_iface, cells_iface, one_vs, cells_vs, one_vp, cells_vp, cells_agg, Nat.testBit, setAt_1, setAt_2, closeds_nil, closeds_cons, closed_bool, closed_int, closed_str, closed_nilp, closed_nils, closed_nilm, closed_nilf, closed_nili, closed_agg, closed_tup, closed_vs, closed_vp, closed_iface, closed_fn, closeds_cI, closeds_cE, viewA_closed, viewR_closed, AV.scal, AV.scal0, fillA, repA, part_bool, part_int, part_str, part_nilp, part_ptr, part_nils, part_sl, part_nilm, part_mp, part_nilf, part_fn, part_nili, part_iface, part_agg, part_vs, part_vp, viewA_sl1, vaSl_cells, wrap_0, wrap_1, wrap_2, wrap_m1, set_last, get_last, er4_0, er4_1, er4_2, er4_3, er4_4, er4_5, er4_6, er4_7, er4_8, er4_10, h0, hone, hlen, hf]
  by_cases h1 : 1000 < n
  · have hf : rightE n es = false := by unfold rightE; simp; omega
    simp [↓getD_z, ↓getD_s, -List.getD_eq_getElem?_getD, -Int.ofNat_toNat, -getElem?_pos, gz, ↓hid_k, ↓hid_o, ↓hid_q, ↓hid_v, ↓PO_nil, ↓PO_none, ↓PO_grd, ↓PD_nil, ↓PD_none, ↓PD_grd, ↓PDO_N, ↓PDO_X, ↓PDO_call, ↓PDO_calli, ↓PDO_callv, PDX_free, PDX_eq, ↓PStep_N, ↓PStep_X, ↓PStep_call, ↓PStep_calli, PStep_callv, ↓PC_skip, ↓PC_lab, ↓PC_ret, ↓PC_exit, ↓PC_reg, ↓PC_draw, ↓PC_seq, ↓PC_block, ↓PC_loop, ↓PC_scope, ↓PC_cond, ↓thenC_norm, ↓thenC_ret, ↓thenC_exit, ↓blockC_norm, ↓blockC_ret, ↓blockC_exit, ↓loopC_norm, ↓loopC_ret, ↓loopC_exit, ↓endR_ret, ↓endR_norm, resK_none, resK_t, resK_tt, KNO_val, KNO_new, KNO_ite, KNO_map, KXO_some, KXO_ite, KVA_t, KVA_f, KG_skip, KG_tt, KG_ff, KG_tf, KG_ft, KB_true, KB_false, KNOD_val, KNOD_new, KNOD_ite, n_mv, n_pick, n_bin, n_eqB, n_eqN, n_eqS, n_un, n_conv, n_fadd, n_faddV, n_fld1, n_fldN, n_idx, n_idxA, n_idxV, n_idxAV, n_ext, n_lenS, n_lenS0, n_lenV, n_lenT, n_lenA, n_min, n_max, n_build, n_mkfn, n_slc, n_slc0, n_slcV, n_slcA, n_load1, n_loadN, n_load1V, n_loadNV, n_alloc, n_box, n_bsl, n_mksl, n_nilcP, n_nilcV, n_nilcI, n_nilcF, x_store, x_clear0, x_clear, b_add, b_sub, b_mul, b_eql, b_neq, b_lss, b_leq, b_gtr, b_geq, b_and16, unV, ntouch, gather, hide, unhide, evalOpd, applyOuts, int_bne, int_beq, ite_bool, ite_int, one_bool, cells_bool, one_int, cells_int, one_str, cells_str, one_nilp, cells_nilp, one_ptr, cells_ptr, one_nils, cells_nils, one_sl, cells_sl, one_nilf, cells_nilf, one_fn, cells_fn, one_nili, cells_nili, one_mp, cells_mp, one_nilm, cells_nilm, one_iface, cells_iface, one_vs, cells_vs, one_vp, cells_vp, cells_agg, Nat.testBit, setAt_1, setAt_2, closeds_nil, closeds_cons, closed_bool, closed_int, closed_str, closed_nilp, closed_nils, closed_nilm, closed_nilf, closed_nili, closed_agg, closed_tup, closed_vs, closed_vp, closed_iface, closed_fn, closeds_cI, closeds_cE, viewA_closed, viewR_closed, AV.scal, AV.scal0, fillA, repA, part_bool, part_int, part_str, part_nilp, part_ptr, part_nils, part_sl, part_nilm, part_mp, part_nilf, part_fn, part_nili, part_iface, part_agg, part_vs, part_vp, viewA_sl1, vaSl_cells, wrap_0, wrap_1, wrap_2, wrap_m1, set_last, get_last, er4_0, er4_1, er4_2, er4_3, er4_4, er4_5, er4_6, er4_7, er4_8, er4_10, h0, h1, hone, hlen, hf]
  by_cases h2 : 4000 < es.length
  · have hf : rightE n es = false := by unfold rightE; simp; omega
    have h2' : (4000 : Int) < es.length := by omega
    simp [↓getD_z, ↓getD_s, -List.getD_eq_getElem?_getD, -Int.ofNat_toNat, -getElem?_pos, gz, ↓hid_k, ↓hid_o, ↓hid_q, ↓hid_v, ↓PO_nil, ↓PO_none, ↓PO_grd, ↓PD_nil, ↓PD_none, ↓PD_grd, ↓PDO_N, ↓PDO_X, ↓PDO_call, ↓PDO_calli, ↓PDO_callv, PDX_free, PDX_eq, ↓PStep_N, ↓PStep_X, ↓PStep_call, ↓PStep_calli, PStep_callv, ↓PC_skip, ↓PC_lab, ↓PC_ret, ↓PC_exit, ↓PC_reg, ↓PC_draw, ↓PC_seq, ↓PC_block, ↓PC_loop, ↓PC_scope, ↓PC_cond, ↓thenC_norm, ↓thenC_ret, ↓thenC_exit, ↓blockC_norm, ↓blockC_ret, ↓blockC_exit, ↓loopC_norm, ↓loopC_ret, ↓loopC_exit, ↓endR_ret, ↓endR_norm, resK_none, resK_t, resK_tt, KNO_val, KNO_new, KNO_ite, KNO_map, KXO_some, KXO_ite, KVA_t, KVA_f, KG_skip, KG_tt, KG_ff, KG_tf, KG_ft, KB_true, KB_false, KNOD_val, KNOD_new, KNOD_ite, n_mv, n_pick, n_bin, n_eqB, n_eqN, n_eqS, n_un, n_conv, n_fadd, n_faddV, n_fld1, n_fldN, n_idx, n_idxA, n_idxV, n_idxAV, n_ext, n_lenS, n_lenS0, n_lenV, n_lenT, n_lenA, n_min, n_max, n_build, n_mkfn, n_slc, n_slc0, n_slcV, n_slcA, n_load1, n_loadN, n_load1V, n_loadNV, n_alloc, n_box, n_bsl, n_mksl, n_nilcP, n_nilcV, n_nilcI, n_nilcF, x_store, x_clear0, x_clear, b_add, b_sub, b_mul, b_eql, b_neq, b_lss, b_leq, b_gtr, b_geq, b_and16, unV, ntouch, gather, hide, unhide, evalOpd, applyOuts, int_bne, int_beq, ite_bool, ite_int, one_bool, cells_bool, one_int, cells_int, one_str, cells_str, one_nilp, cells_nilp, one_ptr, cells_ptr, one_nils, cells_nils, one_sl, cells_sl, one_nilf, cells_nilf, one_fn, cells_fn, one_nili, cells_nili, one_mp, cells_mp, one_nilm, cells_nilm, one_iface, cells_iface, one_vs, cells_vs, one_vp, cells_vp, cells_agg, Nat.testBit, setAt_1, setAt_2, closeds_nil, closeds_cons, closed_bool, closed_int, closed_str, closed_nilp, closed_nils, closed_nilm, closed_nilf, closed_nili, closed_agg, closed_tup, closed_vs, closed_vp, closed_iface, closed_fn, closeds_cI, closeds_cE, viewA_closed, viewR_closed, AV.scal, AV.scal0, fillA, repA, part_bool, part_int, part_str, part_nilp, part_ptr, part_nils, part_sl, part_nilm, part_mp, part_nilf, part_fn, part_nili, part_iface, part_agg, part_vs, part_vp, viewA_sl1, vaSl_cells, wrap_0, wrap_1, wrap_2, wrap_m1, set_last, get_last, er4_0, er4_1, er4_2, er4_3, er4_4, er4_5, er4_6, er4_7, er4_8, er4_10, h0, h1, h2', hone, hlen, hf]
  have h2' : ¬ (4000 : Int) < es.length := by omega
  simp [↓getD_z, ↓getD_s, -List.getD_eq_getElem?_getD, -Int.ofNat_toNat, -getElem?_pos, gz, ↓hid_k, ↓hid_o, ↓hid_q, ↓hid_v, ↓PO_nil, ↓PO_none, ↓PO_grd, ↓PD_nil, ↓PD_none, ↓PD_grd, ↓PDO_N, ↓PDO_X, ↓PDO_call, ↓PDO_calli, ↓PDO_callv, PDX_free, PDX_eq, ↓PStep_N, ↓PStep_X, ↓PStep_call, ↓PStep_calli, PStep_callv, ↓PC_skip, ↓PC_lab, ↓PC_ret, ↓PC_exit, ↓PC_reg, ↓PC_draw, ↓PC_seq, ↓PC_block, ↓PC_loop, ↓PC_scope, ↓PC_cond, ↓thenC_norm, ↓thenC_ret, ↓thenC_exit, ↓blockC_norm, ↓blockC_ret, ↓blockC_exit, ↓loopC_norm, ↓loopC_ret, ↓loopC_exit, ↓endR_ret, ↓endR_norm, resK_none, resK_t, resK_tt, KNO_val, KNO_new, KNO_ite, KNO_map, KXO_some, KXO_ite, KVA_t, KVA_f, KG_skip, KG_tt, KG_ff, KG_tf, KG_ft, KB_true, KB_false, KNOD_val, KNOD_new, KNOD_ite, n_mv, n_pick, n_bin, n_eqB, n_eqN, n_eqS, n_un, n_conv, n_fadd, n_faddV, n_fld1, n_fldN, n_idx, n_idxA, n_idxV, n_idxAV, n_ext, n_lenS, n_lenS0, n_lenV, n_lenT, n_lenA, n_min, n_max, n_build, n_mkfn, n_slc, n_slc0, n_slcV, n_slcA, n_load1, n_loadN, n_load1V, n_loadNV, n_alloc, n_box, n_bsl, n_mksl, n_nilcP, n_nilcV, n_nilcI, n_nilcF, x_store, x_clear0, x_clear, b_add, b_sub, b_mul, b_eql, b_neq, b_lss, b_leq, b_gtr, b_geq, b_and16, unV, ntouch, gather, hide, unhide, evalOpd, applyOuts, int_bne, int_beq, ite_bool, ite_int, one_bool, cells_bool, one_int, cells_int, one_str, cells_str, one_nilp, cells_nilp, one_ptr, cells_ptr, one_nils, cells_nils, one_sl, cells_sl, one_nilf, cells_nilf, one_fn, cells_fn, one_nili, cells_nili, one_mp, cells_mp, one_nilm, cells_nilm, one_iface, cells_iface, one_vs, cells_vs, one_vp, cells_vp, cells_agg, Nat.testBit, setAt_1, setAt_2, closeds_nil, closeds_cons, closed_bool, closed_int, closed_str, closed_nilp, closed_nils, closed_nilm, closed_nilf, closed_nili, closed_agg, closed_tup, closed_vs, closed_vp, closed_iface, closed_fn, closeds_cI, closeds_cE, viewA_closed, viewR_closed, AV.scal, AV.scal0, fillA, repA, part_bool, part_int, part_str, part_nilp, part_ptr, part_nils, part_sl, part_nilm, part_mp, part_nilf, part_fn, part_nili, part_iface, part_agg, part_vs, part_vp, viewA_sl1, vaSl_cells, wrap_0, wrap_1, wrap_2, wrap_m1, set_last, get_last, er4_0, er4_1, er4_2, er4_3, er4_4, er4_5, er4_6, er4_7, er4_8, er4_10, h0, h1, h2', hone, hlen]
  refine pc_loopI (fun m st => ∃ (i : Nat) (p q r s : AV) (J : Heap), i + m = es.length ∧ (∀ j, j < i → stepE n es j = true) ∧
    st = ([gV n v, .ptr 0 0 0, .bool false, p, q, .bool false, v, .int .i64 es.length, .int .i64 i, r, s], .cells 0 false [.int .i64 n, v] :: J)) es.length ⟨0, _, _, _, _, [], by simp, by simp, rfl⟩ ?_
  rintro m st ⟨i, p, q, r, s, J, hi, hs, rfl⟩
  by_cases hlt : i < es.length
  · have hlt' : (i : Int) < es.length := by omega
    obtain ⟨i1, g1', g2', le1, t1⟩ := hv.at hlt
    have hsi : stepE n es i = (decide (0 ≤ es[i].1) && decide (es[i].1 < es[i].2) && decide (es[i].2 < n) && (i == 0 || decide (cmpE (es.getD (i - 1) (0, 0)) es[i] < 0))) := by
      simp only [stepE, List.getD_eq_getElem?_getD, List.getElem?_eq_getElem hlt, Option.getD_some]
    have hw1 := wrap1 hlt (by omega)
    have hcm := fun y => hc y es[i]
    generalize hx : es[i].1 = x at *
    generalize hy : es[i].2 = y at *
    by_cases g1 : x < 0
    · have hf := right_false hlt (by rw [hsi]; simp; intros; omega)
      simp [↓getD_z, ↓getD_s, -List.getD_eq_getElem?_getD, -Int.ofNat_toNat, -getElem?_pos, gz, ↓hid_k, ↓hid_o, ↓hid_q, ↓hid_v, ↓PO_nil, ↓PO_none, ↓PO_grd, ↓PD_nil, ↓PD_none, ↓PD_grd, ↓PDO_N, ↓PDO_X, ↓PDO_call, ↓PDO_calli, ↓PDO_callv, PDX_free, PDX_eq, ↓PStep_N, ↓PStep_X, ↓PStep_call, ↓PStep_calli, PStep_callv, ↓PC_skip, ↓PC_lab, ↓PC_ret, ↓PC_exit, ↓PC_reg, ↓PC_draw, ↓PC_seq, ↓PC_block, ↓PC_loop, ↓PC_scope, ↓PC_cond, ↓thenC_norm, ↓thenC_ret, ↓thenC_exit, ↓blockC_norm, ↓blockC_ret, ↓blockC_exit, ↓loopC_norm, ↓loopC_ret, ↓loopC_exit, ↓endR_ret, ↓endR_norm, resK_none, resK_t, resK_tt, KNO_val, KNO_new, KNO_ite, KNO_map, KXO_some, KXO_ite, KVA_t, KVA_f, KG_skip, KG_tt, KG_ff, KG_tf, KG_ft, KB_true, KB_false, KNOD_val, KNOD_new, KNOD_ite, n_mv, n_pick, n_bin, n_eqB, n_eqN, n_eqS, n_un, n_conv, n_fadd, n_faddV, n_fld1, n_fldN, n_idx, n_idxA, n_idxV, n_idxAV, n_ext, n_lenS, n_lenS0, n_lenV, n_lenT, n_lenA, n_min, n_max, n_build, n_mkfn, n_slc, n_slc0, n_slcV, n_slcA, n_load1, n_loadN, n_load1V, n_loadNV, n_alloc, n_box, n_bsl, n_mksl, n_nilcP, n_nilcV, n_nilcI, n_nilcF, x_store, x_clear0, x_clear, b_add, b_sub, b_mul, b_eql, b_neq, b_lss, b_leq, b_gtr, b_geq, b_and16, unV, ntouch, gather, hide, unhide, evalOpd, applyOuts, int_bne, int_beq, ite_bool, ite_int, one_bool, cells_bool, one_int, cells_int, one_str, cells_str, one_nilp, cells_nilp, one_ptr, cells_ptr, one_nils, cells_nils, one_sl, cells_sl, one_nilf, cells_nilf, one_fn, cells_fn, one_nili, cells_nili, one_mp, cells_mp, one_nilm, cells_nilm, one_iface, cells_iface, one_vs, cells_vs, one_vp, cells_vp, cells_agg, Nat.testBit, setAt_1, setAt_2, closeds_nil, closeds_cons, closed_bool, closed_int, closed_str, closed_nilp, closed_nils, closed_nilm, closed_nilf, closed_nili, closed_agg, closed_tup, closed_vs, closed_vp, closed_iface, closed_fn, closeds_cI, closeds_cE, viewA_closed, viewR_closed, AV.scal, AV.scal0, fillA, repA, part_bool, part_int, part_str, part_nilp, part_ptr, part_nils, part_sl, part_nilm, part_mp, part_nilf, part_fn, part_nili, part_iface, part_agg, part_vs, part_vp, viewA_sl1, vaSl_cells, wrap_0, wrap_1, wrap_2, wrap_m1, set_last, get_last, er4_0, er4_1, er4_2, er4_3, er4_4, er4_5, er4_6, er4_7, er4_8, er4_10, hlt', i1, le1, t1, g1, hf]
    by_cases g2 : y ≤ x
    · have hf := right_false hlt (by rw [hsi]; simp; intros; omega)
      simp [↓getD_z, ↓getD_s, -List.getD_eq_getElem?_getD, -Int.ofNat_toNat, -getElem?_pos, gz, ↓hid_k, ↓hid_o, ↓hid_q, ↓hid_v, ↓PO_nil, ↓PO_none, ↓PO_grd, ↓PD_nil, ↓PD_none, ↓PD_grd, ↓PDO_N, ↓PDO_X, ↓PDO_call, ↓PDO_calli, ↓PDO_callv, PDX_free, PDX_eq, ↓PStep_N, ↓PStep_X, ↓PStep_call, ↓PStep_calli, PStep_callv, ↓PC_skip, ↓PC_lab, ↓PC_ret, ↓PC_exit, ↓PC_reg, ↓PC_draw, ↓PC_seq, ↓PC_block, ↓PC_loop, ↓PC_scope, ↓PC_cond, ↓thenC_norm, ↓thenC_ret, ↓thenC_exit, ↓blockC_norm, ↓blockC_ret, ↓blockC_exit, ↓loopC_norm, ↓loopC_ret, ↓loopC_exit, ↓endR_ret, ↓endR_norm, resK_none, resK_t, resK_tt, KNO_val, KNO_new, KNO_ite, KNO_map, KXO_some, KXO_ite, KVA_t, KVA_f, KG_skip, KG_tt, KG_ff, KG_tf, KG_ft, KB_true, KB_false, KNOD_val, KNOD_new, KNOD_ite, n_mv, n_pick, n_bin, n_eqB, n_eqN, n_eqS, n_un, n_conv, n_fadd, n_faddV, n_fld1, n_fldN, n_idx, n_idxA, n_idxV, n_idxAV, n_ext, n_lenS, n_lenS0, n_lenV, n_lenT, n_lenA, n_min, n_max, n_build, n_mkfn, n_slc, n_slc0, n_slcV, n_slcA, n_load1, n_loadN, n_load1V, n_loadNV, n_alloc, n_box, n_bsl, n_mksl, n_nilcP, n_nilcV, n_nilcI, n_nilcF, x_store, x_clear0, x_clear, b_add, b_sub, b_mul, b_eql, b_neq, b_lss, b_leq, b_gtr, b_geq, b_and16, unV, ntouch, gather, hide, unhide, evalOpd, applyOuts, int_bne, int_beq, ite_bool, ite_int, one_bool, cells_bool, one_int, cells_int, one_str, cells_str, one_nilp, cells_nilp, one_ptr, cells_ptr, one_nils, cells_nils, one_sl, cells_sl, one_nilf, cells_nilf, one_fn, cells_fn, one_nili, cells_nili, one_mp, cells_mp, one_nilm, cells_nilm, one_iface, cells_iface, one_vs, cells_vs, one_vp, cells_vp, cells_agg, Nat.testBit, setAt_1, setAt_2, closeds_nil, closeds_cons, closed_bool, closed_int, closed_str, closed_nilp, closed_nils, closed_nilm, closed_nilf, closed_nili, closed_agg, closed_tup, closed_vs, closed_vp, closed_iface, closed_fn, closeds_cI, closeds_cE, viewA_closed, viewR_closed, AV.scal, AV.scal0, fillA, repA, part_bool, part_int, part_str, part_nilp, part_ptr, part_nils, part_sl, part_nilm, part_mp, part_nilf, part_fn, part_nili, part_iface, part_agg, part_vs, part_vp, viewA_sl1, vaSl_cells, wrap_0, wrap_1, wrap_2, wrap_m1, set_last, get_last, er4_0, er4_1, er4_2, er4_3, er4_4, er4_5, er4_6, er4_7, er4_8, er4_10, hlt', i1, le1, t1, g1, g2, hf]
    by_cases g3 : n ≤ y
    · have hf := right_false hlt (by rw [hsi]; simp; intros; omega)
      simp [↓getD_z, ↓getD_s, -List.getD_eq_getElem?_getD, -Int.ofNat_toNat, -getElem?_pos, gz, ↓hid_k, ↓hid_o, ↓hid_q, ↓hid_v, ↓PO_nil, ↓PO_none, ↓PO_grd, ↓PD_nil, ↓PD_none, ↓PD_grd, ↓PDO_N, ↓PDO_X, ↓PDO_call, ↓PDO_calli, ↓PDO_callv, PDX_free, PDX_eq, ↓PStep_N, ↓PStep_X, ↓PStep_call, ↓PStep_calli, PStep_callv, ↓PC_skip, ↓PC_lab, ↓PC_ret, ↓PC_exit, ↓PC_reg, ↓PC_draw, ↓PC_seq, ↓PC_block, ↓PC_loop, ↓PC_scope, ↓PC_cond, ↓thenC_norm, ↓thenC_ret, ↓thenC_exit, ↓blockC_norm, ↓blockC_ret, ↓blockC_exit, ↓loopC_norm, ↓loopC_ret, ↓loopC_exit, ↓endR_ret, ↓endR_norm, resK_none, resK_t, resK_tt, KNO_val, KNO_new, KNO_ite, KNO_map, KXO_some, KXO_ite, KVA_t, KVA_f, KG_skip, KG_tt, KG_ff, KG_tf, KG_ft, KB_true, KB_false, KNOD_val, KNOD_new, KNOD_ite, n_mv, n_pick, n_bin, n_eqB, n_eqN, n_eqS, n_un, n_conv, n_fadd, n_faddV, n_fld1, n_fldN, n_idx, n_idxA, n_idxV, n_idxAV, n_ext, n_lenS, n_lenS0, n_lenV, n_lenT, n_lenA, n_min, n_max, n_build, n_mkfn, n_slc, n_slc0, n_slcV, n_slcA, n_load1, n_loadN, n_load1V, n_loadNV, n_alloc, n_box, n_bsl, n_mksl, n_nilcP, n_nilcV, n_nilcI, n_nilcF, x_store, x_clear0, x_clear, b_add, b_sub, b_mul, b_eql, b_neq, b_lss, b_leq, b_gtr, b_geq, b_and16, unV, ntouch, gather, hide, unhide, evalOpd, applyOuts, int_bne, int_beq, ite_bool, ite_int, one_bool, cells_bool, one_int, cells_int, one_str, cells_str, one_nilp, cells_nilp, one_ptr, cells_ptr, one_nils, cells_nils, one_sl, cells_sl, one_nilf, cells_nilf, one_fn, cells_fn, one_nili, cells_nili, one_mp, cells_mp, one_nilm, cells_nilm, one_iface, cells_iface, one_vs, cells_vs, one_vp, cells_vp, cells_agg, Nat.testBit, setAt_1, setAt_2, closeds_nil, closeds_cons, closed_bool, closed_int, closed_str, closed_nilp, closed_nils, closed_nilm, closed_nilf, closed_nili, closed_agg, closed_tup, closed_vs, closed_vp, closed_iface, closed_fn, closeds_cI, closeds_cE, viewA_closed, viewR_closed, AV.scal, AV.scal0, fillA, repA, part_bool, part_int, part_str, part_nilp, part_ptr, part_nils, part_sl, part_nilm, part_mp, part_nilf, part_fn, part_nili, part_iface, part_agg, part_vs, part_vp, viewA_sl1, vaSl_cells, wrap_0, wrap_1, wrap_2, wrap_m1, set_last, get_last, er4_0, er4_1, er4_2, er4_3, er4_4, er4_5, er4_6, er4_7, er4_8, er4_10, hlt', i1, le1, t1, g1, g2, g3, hf]
    have hfin : (i = 0 ∨ cmpE (es.getD (i - 1) (0, 0)) es[i] < 0) → ∀ j, j < i + 1 → stepE n es j = true := by
      intro h j hj
      by_cases e : j < i
      · exact hs j e
      · have e : j = i := by omega
        subst e
        rw [hsi]
        have a1 : 0 ≤ x := by omega
        have a2 : x < y := by omega
        have a3 : y < n := by omega
        rw [decide_eq_true a1, decide_eq_true a2, decide_eq_true a3]
        rcases h with h | h
        · simp [h]
        · rw [decide_eq_true h]; simp
    by_cases g4 : i = 0
    · have g4' : ¬ 0 < i := by omega
      simp [↓getD_z, ↓getD_s, -List.getD_eq_getElem?_getD, -Int.ofNat_toNat, -getElem?_pos, gz, ↓hid_k, ↓hid_o, ↓hid_q, ↓hid_v, ↓PO_nil, ↓PO_none, ↓PO_grd, ↓PD_nil, ↓PD_none, ↓PD_grd, ↓PDO_N, ↓PDO_X, ↓PDO_call, ↓PDO_calli, ↓PDO_callv, PDX_free, PDX_eq, ↓PStep_N, ↓PStep_X, ↓PStep_call, ↓PStep_calli, PStep_callv, ↓PC_skip, ↓PC_lab, ↓PC_ret, ↓PC_exit, ↓PC_reg, ↓PC_draw, ↓PC_seq, ↓PC_block, ↓PC_loop, ↓PC_scope, ↓PC_cond, ↓thenC_norm, ↓thenC_ret, ↓thenC_exit, ↓blockC_norm, ↓blockC_ret, ↓blockC_exit, ↓loopC_norm, ↓loopC_ret, ↓loopC_exit, ↓endR_ret, ↓endR_norm, resK_none, resK_t, resK_tt, KNO_val, KNO_new, KNO_ite, KNO_map, KXO_some, KXO_ite, KVA_t, KVA_f, KG_skip, KG_tt, KG_ff, KG_tf, KG_ft, KB_true, KB_false, KNOD_val, KNOD_new, KNOD_ite, n_mv, n_pick, n_bin, n_eqB, n_eqN, n_eqS, n_un, n_conv, n_fadd, n_faddV, n_fld1, n_fldN, n_idx, n_idxA, n_idxV, n_idxAV, n_ext, n_lenS, n_lenS0, n_lenV, n_lenT, n_lenA, n_min, n_max, n_build, n_mkfn, n_slc, n_slc0, n_slcV, n_slcA, n_load1, n_loadN, n_load1V, n_loadNV, n_alloc, n_box, n_bsl, n_mksl, n_nilcP, n_nilcV, n_nilcI, n_nilcF, x_store, x_clear0, x_clear, b_add, b_sub, b_mul, b_eql, b_neq, b_lss, b_leq, b_gtr, b_geq, b_and16, unV, ntouch, gather, hide, unhide, evalOpd, applyOuts, int_bne, int_beq, ite_bool, ite_int, one_bool, cells_bool, one_int, cells_int, one_str, cells_str, one_nilp, cells_nilp, one_ptr, cells_ptr, one_nils, cells_nils, one_sl, cells_sl, one_nilf, cells_nilf, one_fn, cells_fn, one_nili, cells_nili, one_mp, cells_mp, one_nilm, cells_nilm, one_iface, cells_iface, one_vs, cells_vs, one_vp, cells_vp, cells_agg, Nat.testBit, setAt_1, setAt_2, closeds_nil, closeds_cons, closed_bool, closed_int, closed_str, closed_nilp, closed_nils, closed_nilm, closed_nilf, closed_nili, closed_agg, closed_tup, closed_vs, closed_vp, closed_iface, closed_fn, closeds_cI, closeds_cE, viewA_closed, viewR_closed, AV.scal, AV.scal0, fillA, repA, part_bool, part_int, part_str, part_nilp, part_ptr, part_nils, part_sl, part_nilm, part_mp, part_nilf, part_fn, part_nili, part_iface, part_agg, part_vs, part_vp, viewA_sl1, vaSl_cells, wrap_0, wrap_1, wrap_2, wrap_m1, set_last, get_last, er4_0, er4_1, er4_2, er4_3, er4_4, er4_5, er4_6, er4_7, er4_8, er4_10, hlt', i1, le1, t1, g1, g2, g3, g4', hw1]
      exact next_mk (m - 1) (by omega) ⟨i + 1, _, _, _, _, _, by omega, hfin (.inl g4), rfl⟩
    have g4' : 0 < i := by omega
    have hlt1 : i - 1 < es.length := by omega
    obtain ⟨i2, g3', g4'', le2, t2⟩ := hv.at hlt1
    have hw : IntKind.i64.wrap ((i : Int) - 1) = ((i - 1 : Nat) : Int) := by rw [wrap_in (by omega) (by omega)]; omega
    have hbef : es.getD (i - 1) (0, 0) = es[i - 1] := by rw [List.getD_eq_getElem?_getD, List.getElem?_eq_getElem (by omega)]; rfl
    have hcm2 := (hcm es[i - 1]).eq
    simp only [gE, aE, hx, hy] at hcm2
    rw [hbef] at hfin hsi
    by_cases g5 : 0 ≤ cmpE es[i - 1] es[i]
    · have hf := right_false hlt (by rw [hsi, decide_eq_false (by omega : ¬ cmpE es[i - 1] es[i] < 0)]; simp [g4])
      simp [↓getD_z, ↓getD_s, -List.getD_eq_getElem?_getD, -Int.ofNat_toNat, -getElem?_pos, gz, ↓hid_k, ↓hid_o, ↓hid_q, ↓hid_v, ↓PO_nil, ↓PO_none, ↓PO_grd, ↓PD_nil, ↓PD_none, ↓PD_grd, ↓PDO_N, ↓PDO_X, ↓PDO_call, ↓PDO_calli, ↓PDO_callv, PDX_free, PDX_eq, ↓PStep_N, ↓PStep_X, ↓PStep_call, ↓PStep_calli, PStep_callv, ↓PC_skip, ↓PC_lab, ↓PC_ret, ↓PC_exit, ↓PC_reg, ↓PC_draw, ↓PC_seq, ↓PC_block, ↓PC_loop, ↓PC_scope, ↓PC_cond, ↓thenC_norm, ↓thenC_ret, ↓thenC_exit, ↓blockC_norm, ↓blockC_ret, ↓blockC_exit, ↓loopC_norm, ↓loopC_ret, ↓loopC_exit, ↓endR_ret, ↓endR_norm, resK_none, resK_t, resK_tt, KNO_val, KNO_new, KNO_ite, KNO_map, KXO_some, KXO_ite, KVA_t, KVA_f, KG_skip, KG_tt, KG_ff, KG_tf, KG_ft, KB_true, KB_false, KNOD_val, KNOD_new, KNOD_ite, n_mv, n_pick, n_bin, n_eqB, n_eqN, n_eqS, n_un, n_conv, n_fadd, n_faddV, n_fld1, n_fldN, n_idx, n_idxA, n_idxV, n_idxAV, n_ext, n_lenS, n_lenS0, n_lenV, n_lenT, n_lenA, n_min, n_max, n_build, n_mkfn, n_slc, n_slc0, n_slcV, n_slcA, n_load1, n_loadN, n_load1V, n_loadNV, n_alloc, n_box, n_bsl, n_mksl, n_nilcP, n_nilcV, n_nilcI, n_nilcF, x_store, x_clear0, x_clear, b_add, b_sub, b_mul, b_eql, b_neq, b_lss, b_leq, b_gtr, b_geq, b_and16, unV, ntouch, gather, hide, unhide, evalOpd, applyOuts, int_bne, int_beq, ite_bool, ite_int, one_bool, cells_bool, one_int, cells_int, one_str, cells_str, one_nilp, cells_nilp, one_ptr, cells_ptr, one_nils, cells_nils, one_sl, cells_sl, one_nilf, cells_nilf, one_fn, cells_fn, one_nili, cells_nili, one_mp, cells_mp, one_nilm, cells_nilm, one_iface, cells_iface, one_vs, cells_vs, one_vp, cells_vp, cells_agg, Nat.testBit, setAt_1, setAt_2, closeds_nil, closeds_cons, closed_bool, closed_int, closed_str, closed_nilp, closed_nils, closed_nilm, closed_nilf, closed_nili, closed_agg, closed_tup, closed_vs, closed_vp, closed_iface, closed_fn, closeds_cI, closeds_cE, viewA_closed, viewR_closed, AV.scal, AV.scal0, fillA, repA, part_bool, part_int, part_str, part_nilp, part_ptr, part_nils, part_sl, part_nilm, part_mp, part_nilf, part_fn, part_nili, part_iface, part_agg, part_vs, part_vp, viewA_sl1, vaSl_cells, wrap_0, wrap_1, wrap_2, wrap_m1, set_last, get_last, er4_0, er4_1, er4_2, er4_3, er4_4, er4_5, er4_6, er4_7, er4_8, er4_10, hlt', i1, le1, t1, g1, g2, g3, g4', hw, i2, le2, t2, hcm2, g5, hf]
    · simp [↓getD_z, ↓getD_s, -List.getD_eq_getElem?_getD, -Int.ofNat_toNat, -getElem?_pos, gz, ↓hid_k, ↓hid_o, ↓hid_q, ↓hid_v, ↓PO_nil, ↓PO_none, ↓PO_grd, ↓PD_nil, ↓PD_none, ↓PD_grd, ↓PDO_N, ↓PDO_X, ↓PDO_call, ↓PDO_calli, ↓PDO_callv, PDX_free, PDX_eq, ↓PStep_N, ↓PStep_X, ↓PStep_call, ↓PStep_calli, PStep_callv, ↓PC_skip, ↓PC_lab, ↓PC_ret, ↓PC_exit, ↓PC_reg, ↓PC_draw, ↓PC_seq, ↓PC_block, ↓PC_loop, ↓PC_scope, ↓PC_cond, ↓thenC_norm, ↓thenC_ret, ↓thenC_exit, ↓blockC_norm, ↓blockC_ret, ↓blockC_exit, ↓loopC_norm, ↓loopC_ret, ↓loopC_exit, ↓endR_ret, ↓endR_norm, resK_none, resK_t, resK_tt, KNO_val, KNO_new, KNO_ite, KNO_map, KXO_some, KXO_ite, KVA_t, KVA_f, KG_skip, KG_tt, KG_ff, KG_tf, KG_ft, KB_true, KB_false, KNOD_val, KNOD_new, KNOD_ite, n_mv, n_pick, n_bin, n_eqB, n_eqN, n_eqS, n_un, n_conv, n_fadd, n_faddV, n_fld1, n_fldN, n_idx, n_idxA, n_idxV, n_idxAV, n_ext, n_lenS, n_lenS0, n_lenV, n_lenT, n_lenA, n_min, n_max, n_build, n_mkfn, n_slc, n_slc0, n_slcV, n_slcA, n_load1, n_loadN, n_load1V, n_loadNV, n_alloc, n_box, n_bsl, n_mksl, n_nilcP, n_nilcV, n_nilcI, n_nilcF, x_store, x_clear0, x_clear, b_add, b_sub, b_mul, b_eql, b_neq, b_lss, b_leq, b_gtr, b_geq, b_and16, unV, ntouch, gather, hide, unhide, evalOpd, applyOuts, int_bne, int_beq, ite_bool, ite_int, one_bool, cells_bool, one_int, cells_int, one_str, cells_str, one_nilp, cells_nilp, one_ptr, cells_ptr, one_nils, cells_nils, one_sl, cells_sl, one_nilf, cells_nilf, one_fn, cells_fn, one_nili, cells_nili, one_mp, cells_mp, one_nilm, cells_nilm, one_iface, cells_iface, one_vs, cells_vs, one_vp, cells_vp, cells_agg, Nat.testBit, setAt_1, setAt_2, closeds_nil, closeds_cons, closed_bool, closed_int, closed_str, closed_nilp, closed_nils, closed_nilm, closed_nilf, closed_nili, closed_agg, closed_tup, closed_vs, closed_vp, closed_iface, closed_fn, closeds_cI, closeds_cE, viewA_closed, viewR_closed, AV.scal, AV.scal0, fillA, repA, part_bool, part_int, part_str, part_nilp, part_ptr, part_nils, part_sl, part_nilm, part_mp, part_nilf, part_fn, part_nili, part_iface, part_agg, part_vs, part_vp, viewA_sl1, vaSl_cells, wrap_0, wrap_1, wrap_2, wrap_m1, set_last, get_last, er4_0, er4_1, er4_2, er4_3, er4_4, er4_5, er4_6, er4_7, er4_8, er4_10, hlt', i1, le1, t1, g1, g2, g3, g4', hw, hw1, i2, le2, t2, hcm2, g5]
      exact next_mk (m - 1) (by omega) ⟨i + 1, _, _, _, _, _, by omega, hfin (.inr (by omega)), rfl⟩
  · have hlt' : ¬ (i : Int) < es.length := by omega
    have hm : i = es.length := by omega
    have hf := right_true (n := n) (l := es) (by omega) (by rw [hm] at hs; exact hs)
    simp [↓getD_z, ↓getD_s, -List.getD_eq_getElem?_getD, -Int.ofNat_toNat, -getElem?_pos, gz, ↓hid_k, ↓hid_o, ↓hid_q, ↓hid_v, ↓PO_nil, ↓PO_none, ↓PO_grd, ↓PD_nil, ↓PD_none, ↓PD_grd, ↓PDO_N, ↓PDO_X, ↓PDO_call, ↓PDO_calli, ↓PDO_callv, PDX_free, PDX_eq, ↓PStep_N, ↓PStep_X, ↓PStep_call, ↓PStep_calli, PStep_callv, ↓PC_skip, ↓PC_lab, ↓PC_ret, ↓PC_exit, ↓PC_reg, ↓PC_draw, ↓PC_seq, ↓PC_block, ↓PC_loop, ↓PC_scope, ↓PC_cond, ↓thenC_norm, ↓thenC_ret, ↓thenC_exit, ↓blockC_norm, ↓blockC_ret, ↓blockC_exit, ↓loopC_norm, ↓loopC_ret, ↓loopC_exit, ↓endR_ret, ↓endR_norm, resK_none, resK_t, resK_tt, KNO_val, KNO_new, KNO_ite, KNO_map, KXO_some, KXO_ite, KVA_t, KVA_f, KG_skip, KG_tt, KG_ff, KG_tf, KG_ft, KB_true, KB_false, KNOD_val, KNOD_new, KNOD_ite, n_mv, n_pick, n_bin, n_eqB, n_eqN, n_eqS, n_un, n_conv, n_fadd, n_faddV, n_fld1, n_fldN, n_idx, n_idxA, n_idxV, n_idxAV, n_ext, n_lenS, n_lenS0, n_lenV, n_lenT, n_lenA, n_min, n_max, n_build, n_mkfn, n_slc, n_slc0, n_slcV, n_slcA, n_load1, n_loadN, n_load1V, n_loadNV, n_alloc, n_box, n_bsl, n_mksl, n_nilcP, n_nilcV, n_nilcI, n_nilcF, x_store, x_clear0, x_clear, b_add, b_sub, b_mul, b_eql, b_neq, b_lss, b_leq, b_gtr, b_geq, b_and16, unV, ntouch, gather, hide, unhide, evalOpd, applyOuts, int_bne, int_beq, ite_bool, ite_int, one_bool, cells_bool, one_int, cells_int, one_str, cells_str, one_nilp, cells_nilp, one_ptr, cells_ptr, one_nils, cells_nils, one_sl, cells_sl, one_nilf, cells_nilf, one_fn, cells_fn, one_nili, cells_nili, one_mp, cells_mp, one_nilm, cells_nilm, one_iface, cells_iface, one_vs, cells_vs, one_vp, cells_vp, cells_agg, Nat.testBit, setAt_1, setAt_2, closeds_nil, closeds_cons, closed_bool, closed_int, closed_str, closed_nilp, closed_nils, closed_nilm, closed_nilf, closed_nili, closed_agg, closed_tup, closed_vs, closed_vp, closed_iface, closed_fn, closeds_cI, closeds_cE, viewA_closed, viewR_closed, AV.scal, AV.scal0, fillA, repA, part_bool, part_int, part_str, part_nilp, part_ptr, part_nils, part_sl, part_nilm, part_mp, part_nilf, part_fn, part_nili, part_iface, part_agg, part_vs, part_vp, viewA_sl1, vaSl_cells, wrap_0, wrap_1, wrap_2, wrap_m1, set_last, get_last, er4_0, er4_1, er4_2, er4_3, er4_4, er4_5, er4_6, er4_7, er4_8, er4_10, hlt', hf]
end Go.Ai.G
