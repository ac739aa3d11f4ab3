/- A part of what the law leans on: the abstract machine, the contracts, the rows. -/
import Derived.Test.YtdpjeplagapdgaaK4
import Derived.Test.YtdpjeplagapdgaaK0
/- Functions of the program (package cert) as code of the abstract machine: written by a program of this session out of the elaborated operations. -/
namespace Go.Ai.G
set_option maxRecDepth 100000
set_option linter.unusedVariables false
/-! 88: (carcanet/cert.Bar).Kind: 0: 1: -/
def r88_0 (φ : Nat → Nat) : List AOper := [
  ⟨0, .N .box, [.n 0], none, 0⟩,
  ⟨1, .N .mv, [.c (.int .i64 0)], none, 0⟩]
def r88_1 (φ : Nat → Nat) : List AOper := [
  ⟨0, .N .mv, [.c (.int .i64 4)], none, 0⟩]
def b88 (φ : Nat → Nat) : ACode := .seq (.reg false (r88_0 φ) [(1, 0)]) (.seq (.reg false (r88_1 φ) [(1, 0)]) (.ret))
def f88 (φ : Nat → Nat) : AFn := ⟨1, [0, 2], 3, b88 φ, [.t 1]⟩
/-! 90: (carcanet/cert.Gap).Kind: 0: 1: -/
def r90_0 (φ : Nat → Nat) : List AOper := [
  ⟨0, .N .box, [.n 0], none, 0⟩,
  ⟨1, .N .mv, [.c (.int .i64 0)], none, 0⟩]
def r90_1 (φ : Nat → Nat) : List AOper := [
  ⟨0, .N .mv, [.c (.int .i64 5)], none, 0⟩]
def b90 (φ : Nat → Nat) : ACode := .seq (.reg false (r90_0 φ) [(1, 0)]) (.seq (.reg false (r90_1 φ) [(1, 0)]) (.ret))
def f90 (φ : Nat → Nat) : AFn := ⟨1, [0, 2], 3, b90 φ, [.t 1]⟩
/-! 92: (carcanet/cert.Narrow).Kind: 0: 1: -/
def r92_0 (φ : Nat → Nat) : List AOper := [
  ⟨0, .N .box, [.n 0], none, 0⟩,
  ⟨1, .N .mv, [.c (.int .i64 0)], none, 0⟩]
def r92_1 (φ : Nat → Nat) : List AOper := [
  ⟨0, .N .mv, [.c (.int .i64 2)], none, 0⟩]
def b92 (φ : Nat → Nat) : ACode := .seq (.reg false (r92_0 φ) [(1, 0)]) (.seq (.reg false (r92_1 φ) [(1, 0)]) (.ret))
def f92 (φ : Nat → Nat) : AFn := ⟨1, [0, 2], 3, b92 φ, [.t 1]⟩
/-! 94: (carcanet/cert.Pages).Kind: 0: 1: -/
def r94_0 (φ : Nat → Nat) : List AOper := [
  ⟨0, .N .box, [.n 0], none, 0⟩,
  ⟨1, .N .mv, [.c (.int .i64 0)], none, 0⟩]
def r94_1 (φ : Nat → Nat) : List AOper := [
  ⟨0, .N .mv, [.c (.int .i64 1)], none, 0⟩]
def b94 (φ : Nat → Nat) : ACode := .seq (.reg false (r94_0 φ) [(1, 0)]) (.seq (.reg false (r94_1 φ) [(1, 0)]) (.ret))
def f94 (φ : Nat → Nat) : AFn := ⟨1, [0, 2], 3, b94 φ, [.t 1]⟩
/-! 96: (carcanet/cert.Refusal).Kind: 0: 1: -/
def r96_0 (φ : Nat → Nat) : List AOper := [
  ⟨0, .N .box, [.n 0], none, 0⟩,
  ⟨1, .N .mv, [.c (.int .i64 0)], none, 0⟩]
def r96_1 (φ : Nat → Nat) : List AOper := [
  ⟨0, .N .mv, [.c (.int .i64 6)], none, 0⟩]
def b96 (φ : Nat → Nat) : ACode := .seq (.reg false (r96_0 φ) [(1, 0)]) (.seq (.reg false (r96_1 φ) [(1, 0)]) (.ret))
def f96 (φ : Nat → Nat) : AFn := ⟨1, [0, 2], 3, b96 φ, [.t 1]⟩
/-! 98: (carcanet/cert.Ring).Kind: 0: 1: -/
def r98_0 (φ : Nat → Nat) : List AOper := [
  ⟨0, .N .box, [.n 0], none, 0⟩,
  ⟨1, .N .mv, [.c (.int .i64 0)], none, 0⟩]
def r98_1 (φ : Nat → Nat) : List AOper := [
  ⟨0, .N .mv, [.c (.int .i64 3)], none, 0⟩]
def b98 (φ : Nat → Nat) : ACode := .seq (.reg false (r98_0 φ) [(1, 0)]) (.seq (.reg false (r98_1 φ) [(1, 0)]) (.ret))
def f98 (φ : Nat → Nat) : AFn := ⟨1, [0, 2], 3, b98 φ, [.t 1]⟩
/-! 99: carcanet/cert.Ints: 0:c 1: 2:x 3:x 4:out 5:t 6:n 7:x 8:x 9:x 10:x 11:out 12:t 13: 14: 15: 16: 17: 18: 19: 20: 21: 22: 23: 24: 25: 26: 27: 28: 29: 30: 31: 32: 33: 34: 35: 36: 37: -/
def r99_0 (φ : Nat → Nat) : List AOper := [
  ⟨0, .N .mv, [.c (.nils)], none, 0⟩]
def r99_1 (φ : Nat → Nat) : List AOper := [
  ⟨0, .N .mv, [.n 0], none, 0⟩]
def r99_2 (φ : Nat → Nat) : List AOper := [
  ⟨0, .N (.tas (φ 93) [.nils, .nils]), [.n 13], none, 0⟩,
  ⟨1, .N (.ext 1), [.l 0], none, 0⟩,
  ⟨2, .N (.ext 0), [.l 1], none, 0⟩]
def r99_3 (φ : Nat → Nat) : List AOper := [
  ⟨0, .N (.alloc [.nils, .nils]), [], none, 0⟩,
  ⟨1, .X (.store 2), [.l 0, .n 15], none, 0⟩]
def r99_4 (φ : Nat → Nat) : List AOper := [
  ⟨0, .N (.bsl [.int .i64 0] 1 1 [(0, 1)]), [.c (.int .i64 1)], none, 0⟩,
  ⟨1, .N (.fadd 0), [.n 2], none, 0⟩,
  ⟨2, .N .load1, [.l 0], none, 2⟩,
  ⟨4, .N (.fadd 1), [.n 2], none, 0⟩,
  ⟨5, .N .load1, [.l 0], none, 8⟩,
  ⟨3, .call (φ 120), [.l 4, .l 2], none, 7⟩,
  ⟨6, .call (φ 121), [.l 0, .l 1], none, 63⟩,
  ⟨7, .N .mv, [.l 0], none, 127⟩]
def r99_5 (φ : Nat → Nat) : List AOper := [
  ⟨0, .N (.tas (φ 91) [.nils, .nils, .nils]), [.n 13], none, 0⟩,
  ⟨1, .N (.ext 1), [.l 0], none, 0⟩,
  ⟨2, .N (.ext 0), [.l 1], none, 0⟩]
def r99_6 (φ : Nat → Nat) : List AOper := [
  ⟨0, .N (.alloc [.nils, .nils, .nils]), [], none, 0⟩,
  ⟨1, .X (.store 3), [.l 0, .n 17], none, 0⟩]
def r99_7 (φ : Nat → Nat) : List AOper := [
  ⟨0, .N (.bsl [.int .i64 0] 1 1 [(0, 1)]), [.c (.int .i64 2)], none, 0⟩,
  ⟨1, .N (.fadd 0), [.n 3], none, 0⟩,
  ⟨2, .N (.fadd 0), [.l 0], none, 2⟩,
  ⟨3, .N .load1, [.l 0], none, 6⟩,
  ⟨5, .N (.fadd 0), [.n 3], none, 0⟩,
  ⟨6, .N (.fadd 1), [.l 0], none, 16⟩,
  ⟨7, .N .load1, [.l 0], none, 48⟩,
  ⟨4, .call (φ 121), [.l 6, .l 3], none, 15⟩,
  ⟨8, .call (φ 120), [.l 0, .l 1], none, 255⟩,
  ⟨9, .N .mv, [.l 0], none, 511⟩]
def r99_8 (φ : Nat → Nat) : List AOper := [
  ⟨0, .N .mv, [.n 4], none, 0⟩,
  ⟨1, .N (.fadd 2), [.n 3], none, 0⟩,
  ⟨2, .N .load1, [.l 0], none, 0⟩,
  ⟨3, .N .lenS, [.l 0], none, 0⟩,
  ⟨4, .N (.bsl [.int .i64 0] 1 1 [(0, 1)]), [.l 0], none, 0⟩,
  ⟨5, .X (.app 1 8), [.l 4, .l 0], none, 0⟩,
  ⟨6, .N .mv, [.l 0], none, 0⟩]
def r99_9 (φ : Nat → Nat) : List AOper := [
  ⟨0, .N (.fadd 2), [.n 3], none, 0⟩,
  ⟨1, .N .load1, [.l 0], none, 0⟩,
  ⟨2, .N .lenS, [.l 0], none, 0⟩,
  ⟨3, .N .mv, [.c (.int .i64 0)], none, 0⟩]
def r99_10 (φ : Nat → Nat) : List AOper := [
  ⟨0, .N (.bin .lss), [.n 20, .n 19], none, 0⟩]
def r99_11 (φ : Nat → Nat) : List AOper := [
  ⟨0, .N (.idx 1), [.n 18, .n 20], none, 0⟩,
  ⟨1, .N .load1, [.l 0], none, 0⟩,
  ⟨2, .N .mv, [.l 0], none, 0⟩]
def r99_12 (φ : Nat → Nat) : List AOper := [
  ⟨0, .N .mv, [.n 4], none, 0⟩,
  ⟨1, .N .mv, [.n 5], none, 0⟩,
  ⟨2, .N .lenS, [.l 0], none, 0⟩,
  ⟨3, .N (.bsl [.int .i64 0] 1 1 [(0, 1)]), [.l 0], none, 0⟩,
  ⟨4, .X (.app 1 8), [.l 3, .l 0], none, 0⟩,
  ⟨5, .N .mv, [.l 0], none, 0⟩]
def r99_13 (φ : Nat → Nat) : List AOper := [
  ⟨0, .N .mv, [.n 5], none, 0⟩,
  ⟨1, .N .lenS, [.l 0], none, 0⟩,
  ⟨2, .N .mv, [.c (.int .i64 0)], none, 0⟩]
def r99_14 (φ : Nat → Nat) : List AOper := [
  ⟨0, .N (.bin .lss), [.n 24, .n 23], none, 0⟩]
def r99_15 (φ : Nat → Nat) : List AOper := [
  ⟨0, .N (.idx 3), [.n 22, .n 24], none, 0⟩,
  ⟨1, .N (.loadN 3), [.l 0], none, 0⟩,
  ⟨2, .N (.alloc [.int .i64 0, .int .i64 0, .int .i64 0]), [], none, 0⟩,
  ⟨3, .X (.store 3), [.l 0, .l 1], none, 0⟩]
def r99_16 (φ : Nat → Nat) : List AOper := [
  ⟨0, .N .mv, [.n 4], none, 0⟩,
  ⟨1, .N (.fadd 0), [.n 6], none, 0⟩,
  ⟨2, .N .load1, [.l 0], none, 0⟩,
  ⟨3, .N (.fadd 1), [.n 6], none, 0⟩,
  ⟨4, .N .load1, [.l 0], none, 0⟩,
  ⟨5, .N (.fadd 2), [.n 6], none, 0⟩,
  ⟨6, .N .load1, [.l 0], none, 0⟩,
  ⟨7, .N (.bsl [.int .i64 0] 3 1 [(0, 1), (1, 1), (2, 1)]), [.l 4, .l 2, .l 0], none, 0⟩,
  ⟨8, .X (.app 1 8), [.l 7, .l 0], none, 0⟩,
  ⟨9, .N .mv, [.l 0], none, 0⟩]
def r99_17 (φ : Nat → Nat) : List AOper := [
  ⟨0, .N (.bin .add), [.n 24, .c (.int .i64 1)], none, 0⟩,
  ⟨1, .N .mv, [.l 0], none, 0⟩]
def l99_18 (φ : Nat → Nat) : ACode := .seq (.reg false (r99_14 φ) [(25, 0)]) (.seq (.cond (.n 25) (.skip) (.exit 3)) (.seq (.block 4 (.seq (.reg false (r99_15 φ) [(6, 1)]) (.reg false (r99_16 φ) [(4, 0)]))) (.reg false (r99_17 φ) [(24, 0)])))
def r99_19 (φ : Nat → Nat) : List AOper := [
  ⟨0, .N (.bin .add), [.n 20, .c (.int .i64 1)], none, 0⟩,
  ⟨1, .N .mv, [.l 0], none, 0⟩]
def l99_20 (φ : Nat → Nat) : ACode := .seq (.reg false (r99_10 φ) [(21, 0)]) (.seq (.cond (.n 21) (.skip) (.exit 1)) (.seq (.block 2 (.seq (.reg false (r99_11 φ) [(5, 0)]) (.seq (.reg false (r99_12 φ) [(4, 0)]) (.seq (.reg false (r99_13 φ) [(22, 2), (23, 1), (24, 0)]) (.block 3 (.loop (l99_18 φ))))))) (.reg false (r99_19 φ) [(20, 0)])))
def r99_21 (φ : Nat → Nat) : List AOper := [
  ⟨0, .N .mv, [.n 4], none, 0⟩,
  ⟨1, .N .mv, [.l 0], none, 0⟩]
def r99_22 (φ : Nat → Nat) : List AOper := [
  ⟨0, .N (.tas (φ 97) [.nils]), [.n 13], none, 0⟩,
  ⟨1, .N (.ext 1), [.l 0], none, 0⟩,
  ⟨2, .N (.ext 0), [.l 1], none, 0⟩]
def r99_23 (φ : Nat → Nat) : List AOper := [
  ⟨0, .N (.alloc [.nils]), [], none, 0⟩,
  ⟨1, .X (.store 1), [.l 0, .n 27], none, 0⟩]
def r99_24 (φ : Nat → Nat) : List AOper := [
  ⟨0, .N (.bsl [.int .i64 0] 1 1 [(0, 1)]), [.c (.int .i64 3)], none, 0⟩,
  ⟨1, .N (.fadd 0), [.n 7], none, 0⟩,
  ⟨2, .N .load1, [.l 0], none, 0⟩,
  ⟨3, .call (φ 120), [.l 2, .l 0], none, 0⟩,
  ⟨4, .N .mv, [.l 0], none, 0⟩]
def r99_25 (φ : Nat → Nat) : List AOper := [
  ⟨0, .N (.tas (φ 87) [.int .i64 0, .nils, .nils]), [.n 13], none, 0⟩,
  ⟨1, .N (.ext 1), [.l 0], none, 0⟩,
  ⟨2, .N (.ext 0), [.l 1], none, 0⟩]
def r99_26 (φ : Nat → Nat) : List AOper := [
  ⟨0, .N (.alloc [.int .i64 0, .nils, .nils]), [], none, 0⟩,
  ⟨1, .X (.store 3), [.l 0, .n 29], none, 0⟩]
def r99_27 (φ : Nat → Nat) : List AOper := [
  ⟨0, .N (.fadd 0), [.n 8], none, 0⟩,
  ⟨1, .N (.fadd 0), [.l 0], none, 1⟩,
  ⟨2, .N .load1, [.l 0], none, 3⟩,
  ⟨3, .N (.bsl [.int .i64 0] 2 1 [(0, 1), (1, 1)]), [.c (.int .i64 4), .l 0], none, 7⟩,
  ⟨4, .N (.fadd 0), [.n 8], none, 0⟩,
  ⟨5, .N (.fadd 1), [.l 0], none, 16⟩,
  ⟨6, .N .load1, [.l 0], none, 48⟩,
  ⟨8, .N (.fadd 0), [.n 8], none, 0⟩,
  ⟨9, .N (.fadd 2), [.l 0], none, 128⟩,
  ⟨10, .N .load1, [.l 0], none, 384⟩,
  ⟨7, .call (φ 120), [.l 6, .l 3], none, 127⟩,
  ⟨11, .call (φ 121), [.l 0, .l 1], none, 2047⟩,
  ⟨12, .N .mv, [.l 0], none, 4095⟩]
def r99_28 (φ : Nat → Nat) : List AOper := [
  ⟨0, .N (.tas (φ 89) [.int .i64 0, .int .i64 0, .nils]), [.n 13], none, 0⟩,
  ⟨1, .N (.ext 1), [.l 0], none, 0⟩,
  ⟨2, .N (.ext 0), [.l 1], none, 0⟩]
def r99_29 (φ : Nat → Nat) : List AOper := [
  ⟨0, .N (.alloc [.int .i64 0, .int .i64 0, .nils]), [], none, 0⟩,
  ⟨1, .X (.store 3), [.l 0, .n 31], none, 0⟩]
def r99_30 (φ : Nat → Nat) : List AOper := [
  ⟨0, .N (.fadd 0), [.n 9], none, 0⟩,
  ⟨1, .N .load1, [.l 0], none, 0⟩,
  ⟨2, .N (.fadd 1), [.n 9], none, 0⟩,
  ⟨3, .N .load1, [.l 0], none, 0⟩,
  ⟨4, .N (.bsl [.int .i64 0] 3 1 [(0, 1), (1, 1), (2, 1)]), [.c (.int .i64 5), .l 2, .l 0], none, 0⟩,
  ⟨5, .N (.fadd 2), [.n 9], none, 0⟩,
  ⟨6, .N .load1, [.l 0], none, 0⟩,
  ⟨7, .call (φ 120), [.l 2, .l 0], none, 0⟩,
  ⟨8, .N .mv, [.l 0], none, 0⟩]
def r99_31 (φ : Nat → Nat) : List AOper := [
  ⟨0, .N (.tas (φ 95) [.int .i64 0, .nils]), [.n 13], none, 0⟩,
  ⟨1, .N (.ext 1), [.l 0], none, 0⟩,
  ⟨2, .N (.ext 0), [.l 1], none, 0⟩]
def r99_32 (φ : Nat → Nat) : List AOper := [
  ⟨0, .N (.alloc [.int .i64 0, .nils]), [], none, 0⟩,
  ⟨1, .X (.store 2), [.l 0, .n 33], none, 0⟩]
def r99_33 (φ : Nat → Nat) : List AOper := [
  ⟨0, .N (.fadd 0), [.n 10], none, 0⟩,
  ⟨1, .N (.fadd 0), [.l 0], none, 0⟩,
  ⟨2, .N .load1, [.l 0], none, 0⟩,
  ⟨3, .N (.fadd 0), [.n 10], none, 0⟩,
  ⟨4, .N (.fadd 1), [.l 0], none, 0⟩,
  ⟨5, .N .load1, [.l 0], none, 0⟩,
  ⟨6, .N .lenS, [.l 0], none, 0⟩,
  ⟨7, .N (.bsl [.int .i64 0] 3 1 [(0, 1), (1, 1), (2, 1)]), [.c (.int .i64 6), .l 4, .l 0], none, 0⟩,
  ⟨8, .N .mv, [.l 0], none, 0⟩]
def r99_34 (φ : Nat → Nat) : List AOper := [
  ⟨0, .N (.fadd 0), [.n 10], none, 0⟩,
  ⟨1, .N (.fadd 1), [.l 0], none, 0⟩,
  ⟨2, .N .load1, [.l 0], none, 0⟩,
  ⟨3, .N .lenS, [.l 0], none, 0⟩,
  ⟨4, .N .mv, [.c (.int .i64 0)], none, 0⟩]
def r99_35 (φ : Nat → Nat) : List AOper := [
  ⟨0, .N (.bin .lss), [.n 36, .n 35], none, 0⟩]
def r99_36 (φ : Nat → Nat) : List AOper := [
  ⟨0, .N (.idx 6), [.n 34, .n 36], none, 0⟩,
  ⟨1, .N (.loadN 6), [.l 0], none, 0⟩,
  ⟨2, .N (.alloc [.int .i64 0, .int .i64 0, .int .i64 0, .int .i64 0, .int .i64 0, .int .i64 0]), [], none, 0⟩,
  ⟨3, .X (.store 6), [.l 0, .l 1], none, 0⟩]
def r99_37 (φ : Nat → Nat) : List AOper := [
  ⟨0, .N .mv, [.n 11], none, 0⟩,
  ⟨1, .N (.fadd 0), [.n 12], none, 0⟩,
  ⟨2, .N .load1, [.l 0], none, 0⟩,
  ⟨3, .N (.fadd 1), [.n 12], none, 0⟩,
  ⟨4, .N .load1, [.l 0], none, 0⟩,
  ⟨5, .N (.fadd 2), [.n 12], none, 0⟩,
  ⟨6, .N .load1, [.l 0], none, 0⟩,
  ⟨7, .N (.fadd 3), [.n 12], none, 0⟩,
  ⟨8, .N .load1, [.l 0], none, 0⟩,
  ⟨9, .N (.fadd 4), [.n 12], none, 0⟩,
  ⟨10, .N .load1, [.l 0], none, 0⟩,
  ⟨11, .N (.fadd 5), [.n 12], none, 0⟩,
  ⟨12, .N .load1, [.l 0], none, 0⟩,
  ⟨13, .N (.bsl [.int .i64 0] 6 1 [(0, 1), (1, 1), (2, 1), (3, 1), (4, 1), (5, 1)]), [.l 10, .l 8, .l 6, .l 4, .l 2, .l 0], none, 0⟩,
  ⟨14, .X (.app 1 8), [.l 13, .l 0], none, 0⟩,
  ⟨15, .N .mv, [.l 0], none, 0⟩]
def r99_38 (φ : Nat → Nat) : List AOper := [
  ⟨0, .N (.bin .add), [.n 36, .c (.int .i64 1)], none, 0⟩,
  ⟨1, .N .mv, [.l 0], none, 0⟩]
def l99_39 (φ : Nat → Nat) : ACode := .seq (.reg false (r99_35 φ) [(37, 0)]) (.seq (.cond (.n 37) (.skip) (.exit 5)) (.seq (.block 6 (.seq (.reg false (r99_36 φ) [(12, 1)]) (.reg false (r99_37 φ) [(11, 0)]))) (.reg false (r99_38 φ) [(36, 0)])))
def r99_40 (φ : Nat → Nat) : List AOper := [
  ⟨0, .N .mv, [.n 11], none, 0⟩,
  ⟨1, .N .mv, [.l 0], none, 0⟩]
def r99_41 (φ : Nat → Nat) : List AOper := [
  ⟨0, .N .mv, [.c (.nils)], none, 0⟩]
def b99 (φ : Nat → Nat) : ACode := .seq (.reg false (r99_0 φ) [(1, 0)]) (.seq (.seq (.reg false (r99_1 φ) [(13, 0)]) (.block 0 (.seq (.reg false (r99_2 φ) [(14, 1), (15, 0)]) (.cond (.n 14) (.seq (.reg false (r99_3 φ) [(2, 1)]) (.seq (.reg true (r99_4 φ) [(1, 0)]) (.ret))) (.seq (.reg false (r99_5 φ) [(16, 1), (17, 0)]) (.cond (.n 16) (.seq (.reg false (r99_6 φ) [(3, 1)]) (.seq (.reg true (r99_7 φ) [(4, 0)]) (.seq (.reg false (r99_8 φ) [(4, 0)]) (.seq (.seq (.reg false (r99_9 φ) [(18, 2), (19, 1), (20, 0)]) (.block 1 (.loop (l99_20 φ)))) (.seq (.reg false (r99_21 φ) [(1, 0)]) (.ret)))))) (.seq (.reg false (r99_22 φ) [(26, 1), (27, 0)]) (.cond (.n 26) (.seq (.reg false (r99_23 φ) [(7, 1)]) (.seq (.reg false (r99_24 φ) [(1, 0)]) (.ret))) (.seq (.reg false (r99_25 φ) [(28, 1), (29, 0)]) (.cond (.n 28) (.seq (.reg false (r99_26 φ) [(8, 1)]) (.seq (.reg true (r99_27 φ) [(1, 0)]) (.ret))) (.seq (.reg false (r99_28 φ) [(30, 1), (31, 0)]) (.cond (.n 30) (.seq (.reg false (r99_29 φ) [(9, 1)]) (.seq (.reg false (r99_30 φ) [(1, 0)]) (.ret))) (.seq (.reg false (r99_31 φ) [(32, 1), (33, 0)]) (.cond (.n 32) (.seq (.reg false (r99_32 φ) [(10, 1)]) (.seq (.reg false (r99_33 φ) [(11, 0)]) (.seq (.seq (.reg false (r99_34 φ) [(34, 2), (35, 1), (36, 0)]) (.block 5 (.loop (l99_39 φ)))) (.seq (.reg false (r99_40 φ) [(1, 0)]) (.ret))))) (.skip))))))))))))))) (.seq (.reg false (r99_41 φ) [(1, 0)]) (.ret)))
def f99 (φ : Nat → Nat) : AFn := ⟨1, [0, 2, 3, 4, 5, 7, 9, 10, 11, 12, 13, 14, 16, 17, 19, 20, 29, 30, 47, 48, 49, 50, 58, 59, 60, 61, 77, 78, 84, 85, 99, 100, 110, 111, 122, 123, 124, 125], 145, b99 φ, [.t 1]⟩
/-! 103: carcanet/cert.Order: 0:c 1: 2: 3:x 4:ok 5:x 6:ok 7: 8: -/
def r103_0 (φ : Nat → Nat) : List AOper := [
  ⟨0, .N .mv, [.c (.nils)], none, 0⟩,
  ⟨1, .N .mv, [.c (.bool false)], none, 0⟩]
def r103_1 (φ : Nat → Nat) : List AOper := [
  ⟨0, .N .mv, [.n 0], none, 0⟩,
  ⟨1, .N (.tas (φ 93) [.nils, .nils]), [.l 0], none, 0⟩,
  ⟨2, .N .mv, [.l 0], none, 0⟩,
  ⟨3, .N (.ext 0), [.l 0], none, 0⟩,
  ⟨4, .N (.ext 1), [.l 1], none, 0⟩,
  ⟨5, .N (.alloc [.nils, .nils]), [], none, 0⟩,
  ⟨6, .X (.store 2), [.l 0, .l 2], none, 0⟩,
  ⟨7, .N .mv, [.l 2], none, 0⟩]
def r103_2 (φ : Nat → Nat) : List AOper := [
  ⟨0, .N .mv, [.n 4], none, 0⟩]
def r103_3 (φ : Nat → Nat) : List AOper := [
  ⟨0, .N (.fadd 0), [.n 3], none, 0⟩,
  ⟨1, .N .load1, [.l 0], none, 0⟩,
  ⟨2, .call (φ 122), [.l 0], none, 0⟩,
  ⟨3, .N .mv, [.l 0], none, 0⟩,
  ⟨4, .N .mv, [.c (.bool true)], none, 0⟩]
def r103_4 (φ : Nat → Nat) : List AOper := [
  ⟨0, .N .mv, [.n 0], none, 0⟩,
  ⟨1, .N (.tas (φ 89) [.int .i64 0, .int .i64 0, .nils]), [.l 0], none, 0⟩,
  ⟨2, .N .mv, [.l 0], none, 0⟩,
  ⟨3, .N (.ext 0), [.l 0], none, 0⟩,
  ⟨4, .N (.ext 1), [.l 1], none, 0⟩,
  ⟨5, .N (.alloc [.int .i64 0, .int .i64 0, .nils]), [], none, 0⟩,
  ⟨6, .X (.store 3), [.l 0, .l 2], none, 0⟩,
  ⟨7, .N .mv, [.l 2], none, 0⟩]
def r103_5 (φ : Nat → Nat) : List AOper := [
  ⟨0, .N .mv, [.n 6], none, 0⟩]
def r103_6 (φ : Nat → Nat) : List AOper := [
  ⟨0, .N (.fadd 2), [.n 5], none, 0⟩,
  ⟨1, .N .load1, [.l 0], none, 0⟩,
  ⟨2, .call (φ 122), [.l 0], none, 0⟩,
  ⟨3, .N .mv, [.l 0], none, 0⟩,
  ⟨4, .N .mv, [.c (.bool true)], none, 0⟩]
def r103_7 (φ : Nat → Nat) : List AOper := [
  ⟨0, .N .mv, [.c (.nils)], none, 0⟩,
  ⟨1, .N .mv, [.c (.bool false)], none, 0⟩]
def b103 (φ : Nat → Nat) : ACode := .seq (.reg false (r103_0 φ) [(1, 1), (2, 0)]) (.seq (.seq (.reg false (r103_1 φ) [(3, 2), (4, 0)]) (.seq (.reg false (r103_2 φ) [(7, 0)]) (.cond (.n 7) (.seq (.reg false (r103_3 φ) [(1, 1), (2, 0)]) (.ret)) (.skip)))) (.seq (.seq (.reg false (r103_4 φ) [(5, 2), (6, 0)]) (.seq (.reg false (r103_5 φ) [(8, 0)]) (.cond (.n 8) (.seq (.reg false (r103_6 φ) [(1, 1), (2, 0)]) (.ret)) (.skip)))) (.seq (.reg false (r103_7 φ) [(1, 1), (2, 0)]) (.ret))))
def f103 (φ : Nat → Nat) : AFn := ⟨1, [0, 2, 3, 4, 5, 6, 7, 13, 22], 26, b103 φ, [.t 1, .t 2]⟩
/-! 120: carcanet/cert.row: 0:out 1:l 2: -/
def r120_0 (φ : Nat → Nat) : List AOper := [
  ⟨0, .N .mv, [.c (.nils)], none, 0⟩]
def r120_1 (φ : Nat → Nat) : List AOper := [
  ⟨0, .N .mv, [.n 0], none, 0⟩,
  ⟨1, .N .mv, [.n 1], none, 0⟩,
  ⟨2, .N .lenS, [.l 0], none, 0⟩,
  ⟨3, .N (.bsl [.int .i64 0] 1 1 [(0, 1)]), [.l 0], none, 0⟩,
  ⟨4, .X (.app 1 8), [.l 3, .l 0], none, 0⟩,
  ⟨5, .N .mv, [.n 1], none, 0⟩,
  ⟨6, .X (.app 1 8), [.l 1, .l 0], none, 0⟩,
  ⟨7, .N .mv, [.l 0], none, 0⟩]
def b120 (φ : Nat → Nat) : ACode := .seq (.reg false (r120_0 φ) [(2, 0)]) (.seq (.reg false (r120_1 φ) [(2, 0)]) (.ret))
def f120 (φ : Nat → Nat) : AFn := ⟨2, [0, 1, 4], 12, b120 φ, [.t 2]⟩
/-! 121: carcanet/cert.rows: 0:out 1:all 2: 3:l 4: 5: 6: 7: -/
def r121_0 (φ : Nat → Nat) : List AOper := [
  ⟨0, .N .mv, [.c (.nils)], none, 0⟩]
def r121_1 (φ : Nat → Nat) : List AOper := [
  ⟨0, .N .mv, [.n 0], none, 0⟩,
  ⟨1, .N .mv, [.n 1], none, 0⟩,
  ⟨2, .N .lenS, [.l 0], none, 0⟩,
  ⟨3, .N (.bsl [.int .i64 0] 1 1 [(0, 1)]), [.l 0], none, 0⟩,
  ⟨4, .X (.app 1 8), [.l 3, .l 0], none, 0⟩,
  ⟨5, .N .mv, [.l 0], none, 0⟩]
def r121_2 (φ : Nat → Nat) : List AOper := [
  ⟨0, .N .mv, [.n 1], none, 0⟩,
  ⟨1, .N .lenS, [.l 0], none, 0⟩,
  ⟨2, .N .mv, [.c (.int .i64 0)], none, 0⟩]
def r121_3 (φ : Nat → Nat) : List AOper := [
  ⟨0, .N (.bin .lss), [.n 6, .n 5], none, 0⟩]
def r121_4 (φ : Nat → Nat) : List AOper := [
  ⟨0, .N (.idx 1), [.n 4, .n 6], none, 0⟩,
  ⟨1, .N .load1, [.l 0], none, 0⟩,
  ⟨2, .N .mv, [.l 0], none, 0⟩]
def r121_5 (φ : Nat → Nat) : List AOper := [
  ⟨0, .N .mv, [.n 0], none, 0⟩,
  ⟨1, .N .mv, [.n 3], none, 0⟩,
  ⟨2, .call (φ 120), [.l 1, .l 0], none, 0⟩,
  ⟨3, .N .mv, [.l 0], none, 0⟩]
def r121_6 (φ : Nat → Nat) : List AOper := [
  ⟨0, .N (.bin .add), [.n 6, .c (.int .i64 1)], none, 0⟩,
  ⟨1, .N .mv, [.l 0], none, 0⟩]
def l121_7 (φ : Nat → Nat) : ACode := .seq (.reg false (r121_3 φ) [(7, 0)]) (.seq (.cond (.n 7) (.skip) (.exit 0)) (.seq (.block 1 (.seq (.reg false (r121_4 φ) [(3, 0)]) (.reg false (r121_5 φ) [(0, 0)]))) (.reg false (r121_6 φ) [(6, 0)])))
def r121_8 (φ : Nat → Nat) : List AOper := [
  ⟨0, .N .mv, [.n 0], none, 0⟩,
  ⟨1, .N .mv, [.l 0], none, 0⟩]
def b121 (φ : Nat → Nat) : ACode := .seq (.reg false (r121_0 φ) [(2, 0)]) (.seq (.reg false (r121_1 φ) [(0, 0)]) (.seq (.seq (.reg false (r121_2 φ) [(4, 2), (5, 1), (6, 0)]) (.block 0 (.loop (l121_7 φ)))) (.seq (.reg false (r121_8 φ) [(2, 0)]) (.ret))))
def f121 (φ : Nat → Nat) : AFn := ⟨2, [0, 1, 4, 6, 12, 13, 14, 15], 23, b121 φ, [.t 2]⟩
/-! 124: (*carcanet/cert.source).one: 0:s 1: 2:n 3: -/
def r124_0 (φ : Nat → Nat) : List AOper := [
  ⟨0, .N .mv, [.c (.int .i64 0)], none, 0⟩]
def r124_1 (φ : Nat → Nat) : List AOper := [
  ⟨0, .N .mv, [.n 0], none, 0⟩,
  ⟨1, .N .nilc, [.l 0], none, 0⟩,
  ⟨2, .N (.fadd 0), [.l 0], none, 0⟩,
  ⟨3, .N .load1, [.l 0], none, 0⟩,
  ⟨4, .N .lenS, [.l 0], none, 0⟩,
  ⟨5, .N (.bin .eql), [.l 0, .c (.int .i64 0)], none, 0⟩]
def r124_2 (φ : Nat → Nat) : List AOper := [
  ⟨0, .N (.build [] []), [], none, 0⟩,
  ⟨1, .N (.mki (φ 129)), [.l 0], none, 0⟩,
  ⟨2, .panic, [.l 0], none, 0⟩]
def r124_3 (φ : Nat → Nat) : List AOper := [
  ⟨0, .N .mv, [.n 0], none, 0⟩,
  ⟨1, .N .nilc, [.l 0], none, 0⟩,
  ⟨2, .N (.fadd 0), [.l 0], none, 0⟩,
  ⟨3, .N .load1, [.l 0], none, 0⟩,
  ⟨4, .N (.idx 1), [.l 0, .c (.int .i64 0)], none, 0⟩,
  ⟨5, .N .load1, [.l 0], none, 0⟩,
  ⟨6, .N .mv, [.l 0], none, 0⟩]
def r124_4 (φ : Nat → Nat) : List AOper := [
  ⟨0, .N .mv, [.n 0], none, 0⟩,
  ⟨1, .N .mv, [.n 0], none, 0⟩,
  ⟨2, .N .nilc, [.l 0], none, 0⟩,
  ⟨3, .N (.fadd 0), [.l 0], none, 0⟩,
  ⟨4, .N .load1, [.l 0], none, 0⟩,
  ⟨5, .N (.slc 1 true false false), [.l 0, .c (.int .i64 1)], none, 0⟩,
  ⟨6, .N .nilc, [.l 5], none, 0⟩,
  ⟨7, .N (.fadd 0), [.l 0], none, 0⟩,
  ⟨8, .X (.store 1), [.l 0, .l 2], none, 0⟩]
def r124_5 (φ : Nat → Nat) : List AOper := [
  ⟨0, .N .mv, [.n 2], none, 0⟩,
  ⟨1, .N .mv, [.l 0], none, 0⟩]
def b124 (φ : Nat → Nat) : ACode := .seq (.reg false (r124_0 φ) [(1, 0)]) (.seq (.seq (.reg false (r124_1 φ) [(3, 0)]) (.cond (.n 3) (.reg false (r124_2 φ) []) (.skip))) (.seq (.reg false (r124_3 φ) [(2, 0)]) (.seq (.reg false (r124_4 φ) []) (.seq (.reg false (r124_5 φ) [(1, 0)]) (.ret)))))
def f124 (φ : Nat → Nat) : AFn := ⟨1, [0, 2, 3, 9], 27, b124 φ, [.t 1]⟩
/-! 125: (*carcanet/cert.source).row: 0:s 1: 2:n 3:out -/
def r125_0 (φ : Nat → Nat) : List AOper := [
  ⟨0, .N .mv, [.c (.nils)], none, 0⟩]
def r125_1 (φ : Nat → Nat) : List AOper := [
  ⟨0, .N .mv, [.n 0], none, 0⟩,
  ⟨1, .callp (φ 127), [.l 0, .c (.int .i64 1)], none, 0⟩,
  ⟨2, .N .mv, [.l 0], none, 0⟩]
def r125_2 (φ : Nat → Nat) : List AOper := [
  ⟨0, .N .mv, [.n 0], none, 0⟩,
  ⟨1, .N .nilc, [.l 0], none, 0⟩,
  ⟨2, .N (.fadd 0), [.l 0], none, 0⟩,
  ⟨3, .N .load1, [.l 0], none, 0⟩,
  ⟨4, .N .mv, [.n 2], none, 0⟩,
  ⟨5, .N (.slc 1 false true false), [.l 1, .l 0], none, 0⟩,
  ⟨6, .call (φ 122), [.l 0], none, 0⟩,
  ⟨7, .N .mv, [.l 0], none, 0⟩]
def r125_3 (φ : Nat → Nat) : List AOper := [
  ⟨0, .N .mv, [.n 0], none, 0⟩,
  ⟨1, .N .mv, [.n 0], none, 0⟩,
  ⟨2, .N .nilc, [.l 0], none, 0⟩,
  ⟨3, .N (.fadd 0), [.l 0], none, 0⟩,
  ⟨4, .N .load1, [.l 0], none, 0⟩,
  ⟨5, .N .mv, [.n 2], none, 0⟩,
  ⟨6, .N (.slc 1 true false false), [.l 1, .l 0], none, 0⟩,
  ⟨7, .N .nilc, [.l 6], none, 0⟩,
  ⟨8, .N (.fadd 0), [.l 0], none, 0⟩,
  ⟨9, .X (.store 1), [.l 0, .l 2], none, 0⟩]
def r125_4 (φ : Nat → Nat) : List AOper := [
  ⟨0, .N .mv, [.n 3], none, 0⟩,
  ⟨1, .N .mv, [.l 0], none, 0⟩]
def b125 (φ : Nat → Nat) : ACode := .seq (.reg false (r125_0 φ) [(1, 0)]) (.seq (.reg false (r125_1 φ) [(2, 0)]) (.seq (.reg false (r125_2 φ) [(3, 0)]) (.seq (.reg false (r125_3 φ) []) (.seq (.reg false (r125_4 φ) [(1, 0)]) (.ret)))))
def f125 (φ : Nat → Nat) : AFn := ⟨1, [0, 2, 3, 4], 24, b125 φ, [.t 1]⟩
/-! 126: (*carcanet/cert.source).rows: 0:s 1: 2:out 3: 4: 5: -/
def r126_0 (φ : Nat → Nat) : List AOper := [
  ⟨0, .N .mv, [.c (.nils)], none, 0⟩]
def r126_1 (φ : Nat → Nat) : List AOper := [
  ⟨0, .N .mv, [.c (.nils)], none, 0⟩]
def r126_2 (φ : Nat → Nat) : List AOper := [
  ⟨0, .N .mv, [.n 0], none, 0⟩,
  ⟨1, .callp (φ 127), [.l 0, .c (.int .i64 1)], none, 0⟩,
  ⟨2, .N .mv, [.c (.int .i64 0)], none, 0⟩]
def r126_3 (φ : Nat → Nat) : List AOper := [
  ⟨0, .N (.bin .lss), [.n 4, .n 3], none, 0⟩]
def r126_4 (φ : Nat → Nat) : List AOper := [
  ⟨0, .N .mv, [.n 2], none, 0⟩,
  ⟨1, .N .mv, [.n 0], none, 0⟩,
  ⟨2, .callp (φ 125), [.l 0], none, 0⟩,
  ⟨3, .N (.bsl [.nils] 1 1 [(0, 1)]), [.l 0], none, 0⟩,
  ⟨4, .X (.app 1 24), [.l 3, .l 0], none, 0⟩,
  ⟨5, .N .mv, [.l 0], none, 0⟩]
def r126_5 (φ : Nat → Nat) : List AOper := [
  ⟨0, .N (.bin .add), [.n 4, .c (.int .i64 1)], none, 0⟩,
  ⟨1, .N .mv, [.l 0], none, 0⟩]
def l126_6 (φ : Nat → Nat) : ACode := .seq (.reg false (r126_3 φ) [(5, 0)]) (.seq (.cond (.n 5) (.skip) (.exit 0)) (.seq (.block 1 (.reg false (r126_4 φ) [(2, 0)])) (.reg false (r126_5 φ) [(4, 0)])))
def r126_7 (φ : Nat → Nat) : List AOper := [
  ⟨0, .N .mv, [.n 2], none, 0⟩,
  ⟨1, .N .mv, [.l 0], none, 0⟩]
def b126 (φ : Nat → Nat) : ACode := .seq (.reg false (r126_0 φ) [(1, 0)]) (.seq (.reg false (r126_1 φ) [(2, 0)]) (.seq (.seq (.reg false (r126_2 φ) [(3, 1), (4, 0)]) (.block 0 (.loop (l126_6 φ)))) (.seq (.reg false (r126_7 φ) [(1, 0)]) (.ret))))
def f126 (φ : Nat → Nat) : AFn := ⟨1, [0, 2, 3, 5, 6, 7], 15, b126 φ, [.t 1]⟩
/-! 127: (*carcanet/cert.source).count: 0:s 1:each 2: 3:n 4: -/
def r127_0 (φ : Nat → Nat) : List AOper := [
  ⟨0, .N .mv, [.c (.int .i64 0)], none, 0⟩]
def r127_1 (φ : Nat → Nat) : List AOper := [
  ⟨0, .N .mv, [.n 0], none, 0⟩,
  ⟨1, .callp (φ 124), [.l 0], none, 0⟩,
  ⟨2, .N .mv, [.l 0], none, 0⟩]
def r127_2 (φ : Nat → Nat) : List AOper := [
  ⟨0, .N .mv, [.n 3], none, 0⟩,
  ⟨1, .N (.bin .lss), [.l 0, .c (.int .i64 0)], none, 0⟩,
  ⟨2, .N .mv, [.l 0], none, 0⟩,
  ⟨3, .N .mv, [.n 3], some (.l 0, false), 0⟩,
  ⟨4, .N .mv, [.n 0], some (.l 1, false), 0⟩,
  ⟨5, .N .nilc, [.l 0], some (.l 2, false), 0⟩,
  ⟨6, .N (.fadd 0), [.l 0], some (.l 3, false), 0⟩,
  ⟨7, .N .load1, [.l 0], some (.l 4, false), 0⟩,
  ⟨8, .N .lenS, [.l 0], some (.l 5, false), 0⟩,
  ⟨9, .N .mv, [.n 1], some (.l 6, false), 0⟩,
  ⟨10, .N (.bin .quo), [.l 1, .l 0], some (.l 7, false), 0⟩,
  ⟨11, .N (.bin .gtr), [.l 7, .l 0], some (.l 8, false), 0⟩,
  ⟨12, .N .pick, [.l 9, .c (.bool true), .l 0], none, 0⟩]
def r127_3 (φ : Nat → Nat) : List AOper := [
  ⟨0, .N (.build [] []), [], none, 0⟩,
  ⟨1, .N (.mki (φ 129)), [.l 0], none, 0⟩,
  ⟨2, .panic, [.l 0], none, 0⟩]
def r127_4 (φ : Nat → Nat) : List AOper := [
  ⟨0, .N .mv, [.n 3], none, 0⟩,
  ⟨1, .N .mv, [.l 0], none, 0⟩]
def b127 (φ : Nat → Nat) : ACode := .seq (.reg false (r127_0 φ) [(2, 0)]) (.seq (.reg false (r127_1 φ) [(3, 0)]) (.seq (.seq (.reg false (r127_2 φ) [(4, 0)]) (.cond (.n 4) (.reg false (r127_3 φ) []) (.skip))) (.seq (.reg false (r127_4 φ) [(2, 0)]) (.ret))))
def f127 (φ : Nat → Nat) : AFn := ⟨2, [0, 1, 4, 5, 20], 24, b127 φ, [.t 2]⟩
/-! 128: (*carcanet/cert.source).cert: 0:s 1: 2:order 3:x 4:t 5:n 6:x 7:x 8:t 9:n 10:i 11: 12: 13: 14: 15: 16: 17: 18: 19: 20: 21: 22: 23: 24: 25: 26: 27: 28: -/
def r128_0 (φ : Nat → Nat) : List AOper := [
  ⟨0, .N .mv, [.c (.nili)], none, 0⟩]
def r128_1 (φ : Nat → Nat) : List AOper := [
  ⟨0, .N .mv, [.n 0], none, 0⟩,
  ⟨1, .callp (φ 124), [.l 0], none, 0⟩]
def r128_2 (φ : Nat → Nat) : List AOper := [
  ⟨0, .N (.bin .eql), [.n 11, .c (.int .i64 1)], none, 0⟩,
  ⟨1, .N .mv, [.l 0], none, 0⟩]
def r128_3 (φ : Nat → Nat) : List AOper := [
  ⟨0, .N .mv, [.n 0], none, 0⟩,
  ⟨1, .callp (φ 125), [.l 0], none, 0⟩,
  ⟨2, .N .mv, [.l 0], none, 0⟩]
def r128_4 (φ : Nat → Nat) : List AOper := [
  ⟨0, .N .mv, [.n 2], none, 0⟩,
  ⟨1, .N .mv, [.n 0], none, 0⟩,
  ⟨2, .callp (φ 126), [.l 0], none, 0⟩,
  ⟨3, .N (.build [.nils, .nils] [(0, 1), (1, 1)]), [.l 2, .l 0], none, 0⟩,
  ⟨4, .N (.mki (φ 93)), [.l 0], none, 0⟩,
  ⟨5, .N .mv, [.l 0], none, 0⟩]
def r128_5 (φ : Nat → Nat) : List AOper := [
  ⟨0, .N (.bin .eql), [.n 11, .c (.int .i64 2)], none, 0⟩,
  ⟨1, .N .mv, [.l 0], none, 0⟩]
def r128_6 (φ : Nat → Nat) : List AOper := [
  ⟨0, .N (.alloc [.nils, .nils, .nils]), [], none, 0⟩]
def r128_7 (φ : Nat → Nat) : List AOper := [
  ⟨0, .N .mv, [.n 0], none, 0⟩,
  ⟨1, .callp (φ 126), [.l 0], none, 0⟩,
  ⟨2, .N (.fadd 0), [.n 3], none, 0⟩,
  ⟨3, .N (.fadd 0), [.l 0], none, 0⟩,
  ⟨4, .X (.store 1), [.l 0, .l 2], none, 0⟩]
def r128_8 (φ : Nat → Nat) : List AOper := [
  ⟨0, .N .mv, [.n 0], none, 0⟩,
  ⟨1, .callp (φ 125), [.l 0], none, 0⟩,
  ⟨2, .N (.fadd 0), [.n 3], none, 0⟩,
  ⟨3, .N (.fadd 1), [.l 0], none, 0⟩,
  ⟨4, .X (.store 1), [.l 0, .l 2], none, 0⟩]
def r128_9 (φ : Nat → Nat) : List AOper := [
  ⟨0, .N .mv, [.n 0], none, 0⟩,
  ⟨1, .callp (φ 127), [.l 0, .c (.int .i64 1)], none, 0⟩,
  ⟨2, .N .mv, [.c (.int .i64 0)], none, 0⟩]
def r128_10 (φ : Nat → Nat) : List AOper := [
  ⟨0, .N (.bin .lss), [.n 15, .n 14], none, 0⟩]
def r128_11 (φ : Nat → Nat) : List AOper := [
  ⟨0, .N .mv, [.c (.nils)], none, 0⟩]
def r128_12 (φ : Nat → Nat) : List AOper := [
  ⟨0, .N .mv, [.n 0], none, 0⟩,
  ⟨1, .callp (φ 127), [.l 0, .c (.int .i64 3)], none, 0⟩,
  ⟨2, .N .mv, [.c (.int .i64 0)], none, 0⟩]
def r128_13 (φ : Nat → Nat) : List AOper := [
  ⟨0, .N (.bin .lss), [.n 18, .n 17], none, 0⟩]
def r128_14 (φ : Nat → Nat) : List AOper := [
  ⟨0, .N .mv, [.n 0], none, 0⟩,
  ⟨1, .callp (φ 124), [.l 0], none, 0⟩,
  ⟨2, .N (.build [.int .i64 0, .int .i64 0, .int .i64 0] [(0, 1)]), [.l 0], none, 0⟩,
  ⟨3, .N (.alloc [.int .i64 0, .int .i64 0, .int .i64 0]), [], none, 0⟩,
  ⟨4, .X (.store 3), [.l 0, .l 1], none, 0⟩]
def r128_15 (φ : Nat → Nat) : List AOper := [
  ⟨0, .N .mv, [.n 0], none, 0⟩,
  ⟨1, .callp (φ 124), [.l 0], none, 0⟩,
  ⟨2, .N (.fadd 1), [.n 5], none, 0⟩,
  ⟨3, .X (.store 1), [.l 0, .l 1], none, 0⟩]
def r128_16 (φ : Nat → Nat) : List AOper := [
  ⟨0, .N .mv, [.n 0], none, 0⟩,
  ⟨1, .callp (φ 124), [.l 0], none, 0⟩,
  ⟨2, .N (.fadd 2), [.n 5], none, 0⟩,
  ⟨3, .X (.store 1), [.l 0, .l 1], none, 0⟩]
def r128_17 (φ : Nat → Nat) : List AOper := [
  ⟨0, .N .mv, [.n 4], none, 0⟩,
  ⟨1, .N (.loadN 3), [.n 5], none, 0⟩,
  ⟨2, .N (.bsl [.int .i64 0, .int .i64 0, .int .i64 0] 1 3 [(0, 3)]), [.l 0], none, 0⟩,
  ⟨3, .X (.app 3 24), [.l 2, .l 0], none, 0⟩,
  ⟨4, .N .mv, [.l 0], none, 0⟩]
def r128_18 (φ : Nat → Nat) : List AOper := [
  ⟨0, .N (.bin .add), [.n 18, .c (.int .i64 1)], none, 0⟩,
  ⟨1, .N .mv, [.l 0], none, 0⟩]
def l128_19 (φ : Nat → Nat) : ACode := .seq (.reg false (r128_13 φ) [(19, 0)]) (.seq (.cond (.n 19) (.skip) (.exit 3)) (.seq (.block 4 (.seq (.reg false (r128_14 φ) [(5, 1)]) (.seq (.reg false (r128_15 φ) []) (.seq (.reg false (r128_16 φ) []) (.reg false (r128_17 φ) [(4, 0)]))))) (.reg false (r128_18 φ) [(18, 0)])))
def r128_20 (φ : Nat → Nat) : List AOper := [
  ⟨0, .N (.fadd 2), [.n 3], none, 0⟩,
  ⟨1, .N .load1, [.l 0], none, 0⟩,
  ⟨2, .N .mv, [.n 4], none, 0⟩,
  ⟨3, .N (.bsl [.nils] 1 1 [(0, 1)]), [.l 0], none, 0⟩,
  ⟨4, .X (.app 1 24), [.l 2, .l 0], none, 0⟩,
  ⟨5, .N (.fadd 2), [.n 3], none, 0⟩,
  ⟨6, .X (.store 1), [.l 0, .l 1], none, 0⟩]
def r128_21 (φ : Nat → Nat) : List AOper := [
  ⟨0, .N (.bin .add), [.n 15, .c (.int .i64 1)], none, 0⟩,
  ⟨1, .N .mv, [.l 0], none, 0⟩]
def l128_22 (φ : Nat → Nat) : ACode := .seq (.reg false (r128_10 φ) [(16, 0)]) (.seq (.cond (.n 16) (.skip) (.exit 1)) (.seq (.block 2 (.seq (.reg false (r128_11 φ) [(4, 0)]) (.seq (.seq (.reg false (r128_12 φ) [(17, 1), (18, 0)]) (.block 3 (.loop (l128_19 φ)))) (.reg false (r128_20 φ) [])))) (.reg false (r128_21 φ) [(15, 0)])))
def r128_23 (φ : Nat → Nat) : List AOper := [
  ⟨0, .N (.loadN 3), [.n 3], none, 0⟩,
  ⟨1, .N (.mki (φ 91)), [.l 0], none, 0⟩,
  ⟨2, .N .mv, [.l 0], none, 0⟩]
def r128_24 (φ : Nat → Nat) : List AOper := [
  ⟨0, .N (.bin .eql), [.n 11, .c (.int .i64 3)], none, 0⟩,
  ⟨1, .N .mv, [.l 0], none, 0⟩]
def r128_25 (φ : Nat → Nat) : List AOper := [
  ⟨0, .N .mv, [.n 0], none, 0⟩,
  ⟨1, .callp (φ 125), [.l 0], none, 0⟩,
  ⟨2, .N (.build [.nils] [(0, 1)]), [.l 0], none, 0⟩,
  ⟨3, .N (.mki (φ 97)), [.l 0], none, 0⟩,
  ⟨4, .N .mv, [.l 0], none, 0⟩]
def r128_26 (φ : Nat → Nat) : List AOper := [
  ⟨0, .N (.bin .eql), [.n 11, .c (.int .i64 4)], none, 0⟩,
  ⟨1, .N .mv, [.l 0], none, 0⟩]
def r128_27 (φ : Nat → Nat) : List AOper := [
  ⟨0, .N .mv, [.n 0], none, 0⟩,
  ⟨1, .callp (φ 124), [.l 0], none, 0⟩,
  ⟨2, .N (.build [.int .i64 0, .nils, .nils] [(0, 1)]), [.l 0], none, 0⟩,
  ⟨3, .N (.alloc [.int .i64 0, .nils, .nils]), [], none, 0⟩,
  ⟨4, .X (.store 3), [.l 0, .l 1], none, 0⟩]
def r128_28 (φ : Nat → Nat) : List AOper := [
  ⟨0, .N .mv, [.n 0], none, 0⟩,
  ⟨1, .callp (φ 125), [.l 0], none, 0⟩,
  ⟨2, .N (.fadd 1), [.n 6], none, 0⟩,
  ⟨3, .X (.store 1), [.l 0, .l 1], none, 0⟩]
def r128_29 (φ : Nat → Nat) : List AOper := [
  ⟨0, .N .mv, [.n 0], none, 0⟩,
  ⟨1, .callp (φ 126), [.l 0], none, 0⟩,
  ⟨2, .N (.fadd 2), [.n 6], none, 0⟩,
  ⟨3, .X (.store 1), [.l 0, .l 1], none, 0⟩]
def r128_30 (φ : Nat → Nat) : List AOper := [
  ⟨0, .N (.loadN 3), [.n 6], none, 0⟩,
  ⟨1, .N (.build [.int .i64 0, .nils, .nils] [(0, 3)]), [.l 0], none, 0⟩,
  ⟨2, .N (.mki (φ 87)), [.l 0], none, 0⟩,
  ⟨3, .N .mv, [.l 0], none, 0⟩]
def r128_31 (φ : Nat → Nat) : List AOper := [
  ⟨0, .N (.bin .eql), [.n 11, .c (.int .i64 5)], none, 0⟩,
  ⟨1, .N .mv, [.l 0], none, 0⟩]
def r128_32 (φ : Nat → Nat) : List AOper := [
  ⟨0, .N .mv, [.n 0], none, 0⟩,
  ⟨1, .callp (φ 124), [.l 0], none, 0⟩,
  ⟨2, .N (.build [.int .i64 0, .int .i64 0, .nils] [(0, 1)]), [.l 0], none, 0⟩,
  ⟨3, .N (.alloc [.int .i64 0, .int .i64 0, .nils]), [], none, 0⟩,
  ⟨4, .X (.store 3), [.l 0, .l 1], none, 0⟩]
def r128_33 (φ : Nat → Nat) : List AOper := [
  ⟨0, .N .mv, [.n 0], none, 0⟩,
  ⟨1, .callp (φ 124), [.l 0], none, 0⟩,
  ⟨2, .N (.fadd 1), [.n 7], none, 0⟩,
  ⟨3, .X (.store 1), [.l 0, .l 1], none, 0⟩]
def r128_34 (φ : Nat → Nat) : List AOper := [
  ⟨0, .N .mv, [.n 0], none, 0⟩,
  ⟨1, .callp (φ 125), [.l 0], none, 0⟩,
  ⟨2, .N (.fadd 2), [.n 7], none, 0⟩,
  ⟨3, .X (.store 1), [.l 0, .l 1], none, 0⟩]
def r128_35 (φ : Nat → Nat) : List AOper := [
  ⟨0, .N (.loadN 3), [.n 7], none, 0⟩,
  ⟨1, .N (.mki (φ 89)), [.l 0], none, 0⟩,
  ⟨2, .N .mv, [.l 0], none, 0⟩]
def r128_36 (φ : Nat → Nat) : List AOper := [
  ⟨0, .N (.bin .eql), [.n 11, .c (.int .i64 6)], none, 0⟩,
  ⟨1, .N .mv, [.l 0], none, 0⟩]
def r128_37 (φ : Nat → Nat) : List AOper := [
  ⟨0, .N .mv, [.n 0], none, 0⟩,
  ⟨1, .callp (φ 124), [.l 0], none, 0⟩,
  ⟨2, .N (.build [.int .i64 0, .nils] [(0, 1)]), [.l 0], none, 0⟩,
  ⟨3, .N (.alloc [.int .i64 0, .nils]), [], none, 0⟩,
  ⟨4, .X (.store 2), [.l 0, .l 1], none, 0⟩]
def r128_38 (φ : Nat → Nat) : List AOper := [
  ⟨0, .N .mv, [.n 0], none, 0⟩,
  ⟨1, .callp (φ 127), [.l 0, .c (.int .i64 6)], none, 0⟩,
  ⟨2, .N .mv, [.c (.int .i64 0)], none, 0⟩]
def r128_39 (φ : Nat → Nat) : List AOper := [
  ⟨0, .N (.bin .lss), [.n 25, .n 24], none, 0⟩]
def r128_40 (φ : Nat → Nat) : List AOper := [
  ⟨0, .N (.alloc [.int .i64 0, .int .i64 0, .int .i64 0, .int .i64 0, .int .i64 0, .int .i64 0]), [], none, 0⟩]
def r128_41 (φ : Nat → Nat) : List AOper := [
  ⟨0, .N .mv, [.c (.int .i64 0)], none, 0⟩]
def r128_42 (φ : Nat → Nat) : List AOper := [
  ⟨0, .N (.bin .lss), [.n 27, .c (.int .i64 6)], none, 0⟩]
def r128_43 (φ : Nat → Nat) : List AOper := [
  ⟨0, .N .mv, [.n 27], none, 0⟩,
  ⟨1, .N .mv, [.l 0], none, 0⟩]
def r128_44 (φ : Nat → Nat) : List AOper := [
  ⟨0, .N .mv, [.n 10], none, 0⟩,
  ⟨1, .N .mv, [.n 0], none, 0⟩,
  ⟨2, .callp (φ 124), [.l 0], none, 0⟩,
  ⟨3, .N (.idxA 6 1), [.n 9, .l 2], none, 0⟩,
  ⟨4, .X (.store 1), [.l 0, .l 1], none, 0⟩]
def r128_45 (φ : Nat → Nat) : List AOper := [
  ⟨0, .N (.bin .add), [.n 27, .c (.int .i64 1)], none, 0⟩,
  ⟨1, .N .mv, [.l 0], none, 0⟩]
def l128_46 (φ : Nat → Nat) : ACode := .seq (.reg false (r128_42 φ) [(28, 0)]) (.seq (.cond (.n 28) (.skip) (.exit 7)) (.seq (.block 8 (.seq (.reg false (r128_43 φ) [(10, 0)]) (.reg false (r128_44 φ) []))) (.reg false (r128_45 φ) [(27, 0)])))
def r128_47 (φ : Nat → Nat) : List AOper := [
  ⟨0, .N (.fadd 1), [.n 8], none, 0⟩,
  ⟨1, .N .load1, [.l 0], none, 0⟩,
  ⟨2, .N (.idxA 6 1), [.n 9, .c (.int .i64 0)], none, 0⟩,
  ⟨3, .N .load1, [.l 0], none, 0⟩,
  ⟨4, .N (.idxA 6 1), [.n 9, .c (.int .i64 1)], none, 0⟩,
  ⟨5, .N .load1, [.l 0], none, 0⟩,
  ⟨6, .N (.idxA 6 1), [.n 9, .c (.int .i64 2)], none, 0⟩,
  ⟨7, .N .load1, [.l 0], none, 0⟩,
  ⟨8, .N (.idxA 6 1), [.n 9, .c (.int .i64 3)], none, 0⟩,
  ⟨9, .N .load1, [.l 0], none, 0⟩,
  ⟨10, .N (.idxA 6 1), [.n 9, .c (.int .i64 4)], none, 0⟩,
  ⟨11, .N .load1, [.l 0], none, 0⟩,
  ⟨12, .N (.idxA 6 1), [.n 9, .c (.int .i64 5)], none, 0⟩,
  ⟨13, .N .load1, [.l 0], none, 0⟩,
  ⟨14, .N (.build [.int .i64 0, .int .i64 0, .int .i64 0, .int .i64 0, .int .i64 0, .int .i64 0] [(0, 1), (1, 1), (2, 1), (3, 1), (4, 1), (5, 1)]), [.l 10, .l 8, .l 6, .l 4, .l 2, .l 0], none, 0⟩,
  ⟨15, .N (.bsl [.int .i64 0, .int .i64 0, .int .i64 0, .int .i64 0, .int .i64 0, .int .i64 0] 1 6 [(0, 6)]), [.l 0], none, 0⟩,
  ⟨16, .X (.app 6 48), [.l 14, .l 0], none, 0⟩,
  ⟨17, .N (.fadd 1), [.n 8], none, 0⟩,
  ⟨18, .X (.store 1), [.l 0, .l 1], none, 0⟩]
def r128_48 (φ : Nat → Nat) : List AOper := [
  ⟨0, .N (.bin .add), [.n 25, .c (.int .i64 1)], none, 0⟩,
  ⟨1, .N .mv, [.l 0], none, 0⟩]
def l128_49 (φ : Nat → Nat) : ACode := .seq (.reg false (r128_39 φ) [(26, 0)]) (.seq (.cond (.n 26) (.skip) (.exit 5)) (.seq (.block 6 (.seq (.reg false (r128_40 φ) [(9, 0)]) (.seq (.seq (.reg false (r128_41 φ) [(27, 0)]) (.block 7 (.loop (l128_46 φ)))) (.reg false (r128_47 φ) [])))) (.reg false (r128_48 φ) [(25, 0)])))
def r128_50 (φ : Nat → Nat) : List AOper := [
  ⟨0, .N (.loadN 2), [.n 8], none, 0⟩,
  ⟨1, .N (.build [.int .i64 0, .nils] [(0, 2)]), [.l 0], none, 0⟩,
  ⟨2, .N (.mki (φ 95)), [.l 0], none, 0⟩,
  ⟨3, .N .mv, [.l 0], none, 0⟩]
def r128_51 (φ : Nat → Nat) : List AOper := [
  ⟨0, .N .mv, [.c (.nili)], none, 0⟩]
def b128 (φ : Nat → Nat) : ACode := .seq (.reg false (r128_0 φ) [(1, 0)]) (.seq (.seq (.reg false (r128_1 φ) [(11, 0)]) (.block 0 (.seq (.reg false (r128_2 φ) [(12, 0)]) (.cond (.n 12) (.seq (.reg false (r128_3 φ) [(2, 0)]) (.seq (.reg false (r128_4 φ) [(1, 0)]) (.ret))) (.seq (.reg false (r128_5 φ) [(13, 0)]) (.cond (.n 13) (.seq (.reg false (r128_6 φ) [(3, 0)]) (.seq (.reg false (r128_7 φ) []) (.seq (.reg false (r128_8 φ) []) (.seq (.seq (.reg false (r128_9 φ) [(14, 1), (15, 0)]) (.block 1 (.loop (l128_22 φ)))) (.seq (.reg false (r128_23 φ) [(1, 0)]) (.ret)))))) (.seq (.reg false (r128_24 φ) [(20, 0)]) (.cond (.n 20) (.seq (.reg false (r128_25 φ) [(1, 0)]) (.ret)) (.seq (.reg false (r128_26 φ) [(21, 0)]) (.cond (.n 21) (.seq (.reg false (r128_27 φ) [(6, 1)]) (.seq (.reg false (r128_28 φ) []) (.seq (.reg false (r128_29 φ) []) (.seq (.reg false (r128_30 φ) [(1, 0)]) (.ret))))) (.seq (.reg false (r128_31 φ) [(22, 0)]) (.cond (.n 22) (.seq (.reg false (r128_32 φ) [(7, 1)]) (.seq (.reg false (r128_33 φ) []) (.seq (.reg false (r128_34 φ) []) (.seq (.reg false (r128_35 φ) [(1, 0)]) (.ret))))) (.seq (.reg false (r128_36 φ) [(23, 0)]) (.cond (.n 23) (.seq (.reg false (r128_37 φ) [(8, 1)]) (.seq (.seq (.reg false (r128_38 φ) [(24, 1), (25, 0)]) (.block 5 (.loop (l128_49 φ)))) (.seq (.reg false (r128_50 φ) [(1, 0)]) (.ret)))) (.skip))))))))))))))) (.seq (.reg false (r128_51 φ) [(1, 0)]) (.ret)))
def f128 (φ : Nat → Nat) : AFn := ⟨1, [0, 2, 3, 4, 5, 6, 7, 8, 9, 10, 11, 13, 14, 23, 34, 35, 36, 38, 39, 40, 64, 70, 84, 97, 103, 104, 105, 106, 107], 136, b128 φ, [.t 1]⟩
/-! 130: carcanet/cert.Sub.rest: names [0, 2, 3, 4, 6, 18, 19, 20, 21] -/
def r130_0 (φ : Nat → Nat) : List AOper := [
  ⟨0, .N .mv, [.n 0], none, 0⟩,
  ⟨1, .N (.tasf (φ 87)), [.l 0], none, 0⟩,
  ⟨2, .N (.fldN 0 3), [.l 0], none, 0⟩,
  ⟨3, .N (.alloc [.int .i64 0, .nils, .nils]), [], none, 0⟩,
  ⟨4, .X (.store 3), [.l 0, .l 1], none, 0⟩]
def r130_1 (φ : Nat → Nat) : List AOper := [
  ⟨0, .N (.fadd 0), [.n 3], none, 0⟩,
  ⟨1, .N .load1, [.l 0], none, 1⟩,
  ⟨2, .N (.fadd 1), [.n 3], none, 0⟩,
  ⟨3, .N .load1, [.l 0], none, 4⟩,
  ⟨4, .call (φ 122), [.l 0], none, 12⟩,
  ⟨5, .N (.build [.int .i64 0, .nils, .nils] [(0, 1), (1, 1)]), [.l 3, .l 0], none, 31⟩,
  ⟨6, .X (.store 3), [.n 1, .l 0], none, 63⟩]
def r130_2 (φ : Nat → Nat) : List AOper := [
  ⟨0, .N (.fadd 2), [.n 3], none, 0⟩,
  ⟨1, .N .load1, [.l 0], none, 0⟩,
  ⟨2, .N .lenS, [.l 0], none, 0⟩,
  ⟨3, .N .mv, [.c (.int .i64 0)], none, 0⟩]
def r130_3 (φ : Nat → Nat) : List AOper := [
  ⟨0, .N (.bin .lss), [.n 7, .n 6], none, 0⟩]
def r130_4 (φ : Nat → Nat) : List AOper := [
  ⟨0, .N (.idx 1), [.n 5, .n 7], none, 0⟩,
  ⟨1, .N .load1, [.l 0], none, 0⟩,
  ⟨2, .N .mv, [.l 0], none, 0⟩]
def r130_5 (φ : Nat → Nat) : List AOper := [
  ⟨0, .N (.fadd 2), [.n 1], none, 0⟩,
  ⟨1, .N .load1, [.l 0], none, 1⟩,
  ⟨2, .N .mv, [.n 4], none, 0⟩,
  ⟨3, .call (φ 122), [.l 0], none, 4⟩,
  ⟨4, .N (.bsl [.nils] 1 1 [(0, 1)]), [.l 0], none, 12⟩,
  ⟨5, .X (.app 1 24), [.l 3, .l 0], none, 31⟩,
  ⟨6, .N (.fadd 2), [.n 1], none, 63⟩,
  ⟨7, .X (.store 1), [.l 0, .l 1], none, 127⟩]
def r130_6 (φ : Nat → Nat) : List AOper := [
  ⟨0, .N (.bin .add), [.n 7, .c (.int .i64 1)], none, 0⟩,
  ⟨1, .N .mv, [.l 0], none, 0⟩]
def l130_7 (φ : Nat → Nat) : ACode := .seq (.reg false (r130_3 φ) [(8, 0)]) (.seq (.cond (.n 8) (.skip) (.exit 0)) (.seq (.block 1 (.seq (.reg false (r130_4 φ) [(4, 0)]) (.reg true (r130_5 φ) []))) (.reg false (r130_6 φ) [(7, 0)])))
def r130_8 (φ : Nat → Nat) : List AOper := [
  ⟨0, .N (.loadN 3), [.n 1], none, 0⟩,
  ⟨1, .X (.store 3), [.n 1, .l 0], none, 0⟩,
  ⟨2, .X (.store 1), [.n 2, .c (.int .i64 0)], none, 0⟩]
def b130 (φ : Nat → Nat) : ACode := .seq (.reg false (r130_0 φ) [(3, 1)]) (.seq (.reg true (r130_1 φ) []) (.seq (.seq (.reg false (r130_2 φ) [(5, 2), (6, 1), (7, 0)]) (.block 0 (.loop (l130_7 φ)))) (.seq (.reg false (r130_8 φ) []) (.ret))))
end Go.Ai.G
/- Functions of the program (package slices) as code of the abstract machine: written by a program of this session out of the elaborated operations. -/
namespace Go.Ai.G
set_option maxRecDepth 100000
set_option linter.unusedVariables false
/-! 28: slices.Compact[[]carcanet/api.Edge,carcanet/api.Edge]: 0:s 1: 2:k 3:s2 4:k2 5: 6: 7: 8: 9: -/
/-! 32: slices.Clone[[]carcanet/api.Edge,carcanet/api.Edge]: 0:s 1: 2: -/
/-! 33: slices.Index[[]carcanet/api.Edge,carcanet/api.Edge]: 0:s 1:v 2:v 3: 4:i 5: 6: 7: 8: -/
/-! 34: slices.Delete[[]carcanet/api.Edge,carcanet/api.Edge]: 0:s 1:i 2:j 3: 4:oldlen 5: -/
/-! 122: slices.Clone[[]int,int]: 0:s 1: 2: -/
def r122_0 (φ : Nat → Nat) : List AOper := [
  ⟨0, .N .mv, [.c (.nils)], none, 0⟩]
def r122_1 (φ : Nat → Nat) : List AOper := [
  ⟨0, .N .mv, [.n 0], none, 0⟩,
  ⟨1, .N (.eqN 1 false), [.l 0, .c (.nils)], none, 0⟩]
def r122_2 (φ : Nat → Nat) : List AOper := [
  ⟨0, .N .mv, [.c (.nils)], none, 0⟩]
def r122_3 (φ : Nat → Nat) : List AOper := [
  ⟨0, .N (.bsl [.int .i64 0] 0 1 []), [], none, 0⟩,
  ⟨1, .N .mv, [.n 0], none, 0⟩,
  ⟨2, .X (.app 1 8), [.l 1, .l 0], none, 0⟩,
  ⟨3, .N .mv, [.l 0], none, 0⟩]
def b122 (φ : Nat → Nat) : ACode := .seq (.reg false (r122_0 φ) [(1, 0)]) (.seq (.seq (.reg false (r122_1 φ) [(2, 0)]) (.cond (.n 2) (.seq (.reg false (r122_2 φ) [(1, 0)]) (.ret)) (.skip))) (.seq (.reg false (r122_3 φ) [(1, 0)]) (.ret)))
def f122 (φ : Nat → Nat) : AFn := ⟨1, [0, 2, 4], 8, b122 φ, [.t 1]⟩
end Go.Ai.G
/- How one proves what the abstract machine's code does. -/
namespace Go.Ai
set_option linter.unusedVariables false
set_option linter.unusedSimpArgs false

/-! ### More rounds, the same answer -/
def Caller.le (c d : Caller) : Prop := ∀ f args H out, c f args H = some out → d f args H = some out
theorem op_mono {c d : Caller} (h : c.le d) {o : AOp} {vs : List AV} {H : Heap} {out : Out AV} (hs : opStep c o vs H = some out) : opStep d o vs H = some out := by
  cases o <;> simp only [opStep] at hs ⊢ <;> try exact hs
  · exact h _ _ _ _ hs
  · split at hs
    · cases hs
    · rename_i vs' H' hv
      split at hs
      · rename_i r H1 hc
        rw [h _ _ _ _ hc]; exact hs
      · cases hs
  · split at hs
    · exact h _ _ _ _ hs
    · cases hs
  · exact h _ _ _ _ hs
  · split at hs
    · split at hs
      · exact h _ _ _ _ hs
      · cases hs
    · cases hs
theorem ops_mono {c d : Caller} (h : c.le d) {env : List AV} : ∀ (l : List AOper) (loc : List AV) (H : Heap) (out : Out (List AV)), runOps c env l loc H = some out → runOps d env l loc H = some out
  | [], loc, H, out, hs => hs
  | o :: l, loc, H, out, hs => by
    simp only [runOps] at hs ⊢
    cases hg : guardOk env loc o.grd with
    | none => rw [hg] at hs; cases hs
    | some b =>
      rw [hg] at hs
      cases b with
      | false => exact ops_mono h l _ _ _ hs
      | true =>
        simp only at hs ⊢
        cases hop : opStep c o.o (o.args.map (evalOpd env loc)) H with
        | none => rw [hop] at hs; cases hs
        | some r =>
          rw [hop] at hs
          rw [op_mono h hop]
          cases r with
          | ok v H1 => exact ops_mono h l _ _ _ hs
          | pan v H1 => exact hs
theorem draw_mono {c d : Caller} (h : c.le d) {env : List AV} : ∀ (l : List AOper) (loc : List AV) (ts bs : List (Option Nat)) (H : Heap) (out : List AV × Heap), runDraw c env l loc ts bs H = some out → runDraw d env l loc ts bs H = some out
  | [], loc, ts, bs, H, out, hs => hs
  | o :: l, loc, ts, bs, H, out, hs => by
    simp only [runDraw] at hs ⊢
    cases hg : guardOk env loc o.grd with
    | none => rw [hg] at hs; cases hs
    | some b =>
      rw [hg] at hs
      cases b with
      | false => exact draw_mono h l _ _ _ _ _ hs
      | true =>
        simp only at hs ⊢
        have xc : (match opStep c o.o (o.args.map (evalOpd env loc)) (hide (gather o.bef bs) H) with
            | some (.ok v H1) => if (gather o.bef ts).all (fun b => obEq H1[b]? (hide (gather o.bef bs) H)[b]?) then runDraw c env l (v :: loc) (none :: ts) (none :: bs) (unhide (gather o.bef bs) H H1) else none
            | _ => none) = some out → (match opStep d o.o (o.args.map (evalOpd env loc)) (hide (gather o.bef bs) H) with
            | some (.ok v H1) => if (gather o.bef ts).all (fun b => obEq H1[b]? (hide (gather o.bef bs) H)[b]?) then runDraw d env l (v :: loc) (none :: ts) (none :: bs) (unhide (gather o.bef bs) H H1) else none
            | _ => none) = some out := by
          intro hs
          cases hop : opStep c o.o (o.args.map (evalOpd env loc)) (hide (gather o.bef bs) H) with
          | none => rw [hop] at hs; cases hs
          | some r =>
            rw [hop] at hs
            rw [op_mono h hop]
            cases r with
            | pan v H1 => cases hs
            | ok v H1 =>
              simp only at hs ⊢
              split at hs
              · rename_i hk; rw [if_pos hk]; exact draw_mono h l _ _ _ _ _ hs
              · cases hs
        cases hao : o.o with
        | N no =>
          rw [hao] at hs
          simp only at hs ⊢
          split at hs
          · exact draw_mono h l _ _ _ _ _ hs
          · exact draw_mono h l _ _ _ _ _ hs
          · cases hs
        | X xo => rw [hao] at hs xc; exact xc hs
        | call f => rw [hao] at hs xc; exact xc hs
        | calli tmp f => rw [hao] at hs xc; exact xc hs
        | callv => rw [hao] at hs xc; exact xc hs
        | callp f => rw [hao] at hs xc; exact xc hs
        | panic => rw [hao] at hs xc; exact xc hs
        | inv tbl => rw [hao] at hs xc; exact xc hs
theorem iter_mono {f g : St → Option (Ex × St)} (h : ∀ st r, f st = some r → g st = some r) : ∀ (n m : Nat) (st : St) (r : Ex × St), n ≤ m → iter f n st = some r → iter g m st = some r
  | 0, m, st, r, _, hs => by simp [iter] at hs
  | n + 1, 0, st, r, hle, hs => by omega
  | n + 1, m + 1, st, r, hle, hs => by
    simp only [iter] at hs ⊢
    cases hx : f st with
    | none => rw [hx] at hs; cases hs
    | some x =>
      obtain ⟨e, s⟩ := x
      rw [hx] at hs
      rw [h _ _ hx]
      cases e with
      | norm => exact iter_mono h n m s r (by omega) hs
      | ret => exact hs
      | exit id => exact hs
      | pan v => exact hs
theorem code_mono {c d : Caller} (h : c.le d) {k m : Nat} (hkm : k ≤ m) : ∀ (ac : ACode) (st : St) (r : Ex × St), runC c k ac st = some r → runC d m ac st = some r := by
  intro ac
  induction ac with
  | skip | lab | ret | exit => intro st r hs; simpa only [runC] using hs
  | reg draw l outs =>
    intro st r hs
    cases draw with
    | false =>
      simp only [runC] at hs ⊢
      cases hr : runOps c st.1 l [] st.2 with
      | none => rw [hr] at hs; cases hs
      | some out => rw [hr] at hs; rw [ops_mono h l _ _ _ hr]; exact hs
    | true =>
      simp only [runC] at hs ⊢
      cases hr : runDraw c st.1 l [] [] [] st.2 with
      | none => rw [hr] at hs; cases hs
      | some out => rw [hr] at hs; rw [draw_mono h l _ _ _ _ _ hr]; exact hs
  | seq x y ihx ihy =>
    intro st r hs
    simp only [runC] at hs ⊢
    cases hx : runC c k x st with
    | none => rw [hx] at hs; cases hs
    | some q =>
      obtain ⟨e, s⟩ := q
      rw [hx] at hs
      rw [ihx _ _ hx]
      cases e with
      | norm => exact ihy _ _ hs
      | ret => exact hs
      | exit id => exact hs
      | pan v => exact hs
  | cond cn t f iht ihf =>
    intro st r hs
    simp only [runC] at hs ⊢
    split at hs
    · rename_i hb; exact iht _ _ hs
    · rename_i hb; exact ihf _ _ hs
    · cases hs
  | block id b ih =>
    intro st r hs
    simp only [runC] at hs ⊢
    cases hx : runC c k b st with
    | none => rw [hx] at hs; cases hs
    | some q => rw [hx] at hs; rw [ih _ _ hx]; exact hs
  | loop b ih =>
    intro st r hs
    simp only [runC] at hs ⊢
    exact iter_mono ih k m st r hkm hs
  | scope b ih =>
    intro st r hs
    simp only [runC] at hs ⊢
    exact ih _ _ hs
theorem callK_mono (A : AProg) : ∀ (k m : Nat), k ≤ m → (callK A k).le (callK A m)
  | 0, m, _ => fun f args H out h => by cases h
  | k + 1, 0, h => by omega
  | k + 1, m + 1, h => fun f args H out hs => by
    have ih := callK_mono A k m (by omega)
    simp only [callK] at hs ⊢
    split at hs
    · exact hs
    · split at hs
      · cases hs
      · rename_i F hF
        split at hs
        · rename_i hnp
          rw [if_pos hnp]
          cases hx : runC (callK A k) k F.body (env0 F args, H) with
          | none => rw [hx] at hs; cases hs
          | some r => rw [hx] at hs; rw [code_mono ih (by omega) _ _ _ hx]; exact hs
        · cases hs

/-! ### What holds behind a piece of code -/
/-- The call answers, and K holds of its answer and the memory behind it. -/
def PCall (A : AProg) (f : Nat) (vs : List AV) (H : Heap) (K : AV → Heap → Prop) : Prop := ∃ k v H1, callK A k f vs H = some (.ok v H1) ∧ K v H1
/-- The call, made with values alone, answers this value. -/
def PVal (A : AProg) (f : Nat) (vs : List AV) (r : AV) : Prop := ∃ k v H1, callK A k f vs [] = some (.ok v H1) ∧ viewR H1 v = some r
/-- The call answers, and K holds; or it panics, and Kp holds. -/
def PCallE (A : AProg) (f : Nat) (vs : List AV) (H : Heap) (K : AV → Heap → Prop) (Kp : AV → Heap → Prop) : Prop := ∃ k out, callK A k f vs H = some out ∧ match out with
  | .ok v H1 => K v H1
  | .pan v H1 => Kp v H1
def KN (H : Heap) (K : AV → Heap → Prop) : NRes → Prop
  | .val v => K v H
  | .new ob mk => K (mk H.length) (H ++ [ob])
def PStep (A : AProg) (o : AOp) (vs : List AV) (H : Heap) (K : AV → Heap → Prop) : Prop :=
  match o with
  | .N no => ∃ r, nstep no vs (fun b => H[b]?) = some r ∧ KN H K r
  | .X xo => ∃ r, xstep xo vs H = some r ∧ K r.1 r.2
  | .call f => PCall A f vs H K
  | .calli tmp f => ∃ vs' H', viewA H vs = some (vs', H') ∧ ∃ r, PVal A f vs' r ∧ (tmp = true → r.scal = true) ∧ K r (if tmp then H else H')
  | .callv => (match vs with
    | .fn (.func f) first cap :: args => PCall A f (first ++ args ++ cap) H K
    | _ => False)
  | .callp _ => False
  | .panic => False
  | .inv tbl => (match vs with
    | .iface t v :: args => (match tbl.lookup t with
      | some f => PCall A f (v :: args) H K
      | none => False)
    | _ => False)
/-- The same, where it may panic. -/
def PSX (A : AProg) (o : AOp) (vs : List AV) (H : Heap) (K Kp : AV → Heap → Prop) : Prop :=
  match o with
  | .callp f => PCallE A f vs H K Kp
  | .panic => (match vs with
    | [.iface t u] => Kp (.iface t u) H
    | _ => False)
  | o => PStep A o vs H K
def PO (A : AProg) (env : List AV) : List AOper → List AV → Heap → (List AV → Heap → Prop) → (AV → Heap → Prop) → Prop
  | [], loc, H, Q, _ => Q loc H
  | o :: r, loc, H, Q, Qp => ∃ b, guardOk env loc o.grd = some b ∧ (b = false → PO A env r (.tup [] :: loc) H Q Qp) ∧ (b = true → PSX A o.o (o.args.map (evalOpd env loc)) H (fun v H1 => PO A env r (v :: loc) H1 Q Qp) Qp)
def PDX (A : AProg) (ao : AOp) (vs : List AV) (hid lds : List Nat) (H : Heap) (K : AV → Heap → Prop) : Prop :=
  PStep A ao vs (hide hid H) fun v H1 => (∀ b ∈ lds, H1[b]? = (hide hid H)[b]?) ∧ K v (unhide hid H H1)
def PD (A : AProg) (env : List AV) : List AOper → List AV → List (Option Nat) → List (Option Nat) → Heap → (List AV → Heap → Prop) → Prop
  | [], loc, _, _, H, Q => Q loc H
  | o :: r, loc, ts, bs, H, Q => ∃ b, guardOk env loc o.grd = some b ∧ (b = false → PD A env r (.tup [] :: loc) (none :: ts) (none :: bs) H Q) ∧ (b = true →
      match o.o with
      | .N no => ∃ x, nstep no (o.args.map (evalOpd env loc)) (fun b => H[b]?) = some x ∧ (match x with
        | .val v => PD A env r (v :: loc) (ntouch no (o.args.map (evalOpd env loc)) :: ts) (none :: bs) H Q
        | .new ob mk => PD A env r (mk H.length :: loc) (none :: ts) (some H.length :: bs) (H ++ [ob]) Q)
      | ao => PDX A ao (o.args.map (evalOpd env loc)) (gather o.bef bs) (gather o.bef ts) H fun v H1 => PD A env r (v :: loc) (none :: ts) (none :: bs) H1 Q)
def PIt (W : St → (Ex → St → Prop) → Prop) (Q : Ex → St → Prop) : Nat → St → Prop
  | 0, _ => False
  | n + 1, st => W st fun ex st' => match ex with
    | .norm => PIt W Q n st'
    | ex => Q ex st'
def PC (A : AProg) : ACode → St → (Ex → St → Prop) → Prop
  | .skip, st, Q => Q .norm st
  | .lab, st, Q => Q .norm st
  | .ret, st, Q => Q .ret st
  | .exit id, st, Q => Q (.exit id) st
  | .reg false ops outs, st, Q => PO A st.1 ops [] st.2 (fun loc H => Q .norm (applyOuts st.1 loc outs, H)) fun v H => Q (.pan v) (blankOuts st.1 outs, H)
  | .reg true ops outs, st, Q => PD A st.1 ops [] [] [] st.2 fun loc H => Q .norm (applyOuts st.1 loc outs, H)
  | .seq a b, st, Q => PC A a st fun ex st' => match ex with
    | .norm => PC A b st' Q
    | ex => Q ex st'
  | .cond c t e, st, Q => ∃ b, evalOpd st.1 [] c = .bool b ∧ (b = true → PC A t st Q) ∧ (b = false → PC A e st Q)
  | .block id b, st, Q => PC A b st fun ex st' => match ex with
    | .exit id' => if id' = id then Q .norm st' else Q (.exit id') st'
    | ex => Q ex st'
  | .loop b, st, Q => ∃ n, PIt (PC A b) Q n st
  | .scope b, st, Q => PC A b st Q

theorem pstep_sound {A : AProg} {o : AOp} {vs : List AV} {H : Heap} {K : AV → Heap → Prop} (h : PStep A o vs H K) : ∃ k v H1, opStep (callK A k) o vs H = some (.ok v H1) ∧ K v H1 := by
  cases o <;> simp only [PStep] at h
  · obtain ⟨r, hr, hk⟩ := h
    cases r with
    | val v => exact ⟨0, v, H, by simp [opStep, hr], hk⟩
    | new ob mk => exact ⟨0, _, _, by simp [opStep, hr], hk⟩
  · obtain ⟨r, hr, hk⟩ := h
    exact ⟨0, r.1, r.2, by simp [opStep, hr], hk⟩
  · exact h
  · rename_i tmp f
    obtain ⟨vs', H', hv, r, ⟨k, v, H1, hr, hvr⟩, hsc, hk⟩ := h
    refine ⟨k, r, _, ?_, hk⟩
    cases tmp with
    | true => simp [opStep, hv, hr, hvr, hsc rfl]
    | false => simp [opStep, hv, hr, hvr]
  · split at h
    · obtain ⟨k, v, H1, hr, hk⟩ := h
      exact ⟨k, v, H1, by simpa [opStep] using hr, hk⟩
    · exact h.elim
  · split at h
    · split at h
      · rename_i hf
        obtain ⟨k, v, H1, hr, hk⟩ := h
        exact ⟨k, v, H1, by simpa [opStep, hf] using hr, hk⟩
      · exact h.elim
    · exact h.elim
def KOut {α : Type} (K : α → Heap → Prop) (Kp : AV → Heap → Prop) : Out α → Prop
  | .ok v H1 => K v H1
  | .pan v H1 => Kp v H1
theorem psx_sound {A : AProg} {o : AOp} {vs : List AV} {H : Heap} {K Kp : AV → Heap → Prop} (h : PSX A o vs H K Kp) : ∃ k out, opStep (callK A k) o vs H = some out ∧ KOut K Kp out := by
  have plain : PStep A o vs H K → ∃ k out, opStep (callK A k) o vs H = some out ∧ KOut K Kp out := fun h => by
    obtain ⟨k, v, H1, hr, hk⟩ := pstep_sound h
    exact ⟨k, _, hr, hk⟩
  cases o with
  | callp f =>
    obtain ⟨k, out, hr, hk⟩ := h
    exact ⟨k, out, hr, by cases out <;> exact hk⟩
  | panic =>
    simp only [PSX] at h
    split at h
    · exact ⟨0, _, rfl, h⟩
    · exact h.elim
  | N no => exact plain h
  | X xo => exact plain h
  | call f => exact plain h
  | calli tmp f => exact plain h
  | callv => exact plain h
  | inv tbl => exact plain h
theorem po_sound {A : AProg} {env : List AV} : ∀ (l : List AOper) (loc : List AV) (H : Heap) (Q : List AV → Heap → Prop) (Qp : AV → Heap → Prop), PO A env l loc H Q Qp → ∃ k out, runOps (callK A k) env l loc H = some out ∧ KOut Q Qp out
  | [], loc, H, Q, Qp, h => ⟨0, .ok loc H, rfl, h⟩
  | o :: l, loc, H, Q, Qp, h => by
    simp only [PO] at h
    obtain ⟨b, hg, h0, h1⟩ := h
    cases b with
    | false =>
      obtain ⟨k, out, hr, hq⟩ := po_sound l _ H Q Qp (h0 rfl)
      exact ⟨k, out, by simp only [runOps, hg]; exact hr, hq⟩
    | true =>
      obtain ⟨k, out, hr, hk⟩ := psx_sound (h1 rfl)
      cases out with
      | pan v H1 => exact ⟨k, .pan v H1, by simp only [runOps, hg, hr], hk⟩
      | ok v H1 =>
        obtain ⟨m, out2, hr2, hq⟩ := po_sound l _ H1 Q Qp hk
        refine ⟨max k m, out2, ?_, hq⟩
        simp only [runOps, hg]
        rw [op_mono (callK_mono A k (max k m) (by omega)) hr]
        exact ops_mono (callK_mono A m (max k m) (by omega)) l _ _ _ hr2
theorem pd_sound {A : AProg} {env : List AV} : ∀ (l : List AOper) (loc : List AV) (ts bs : List (Option Nat)) (H : Heap) (Q : List AV → Heap → Prop), PD A env l loc ts bs H Q → ∃ k loc1 H1, runDraw (callK A k) env l loc ts bs H = some (loc1, H1) ∧ Q loc1 H1
  | [], loc, ts, bs, H, Q, h => ⟨0, loc, H, rfl, h⟩
  | o :: l, loc, ts, bs, H, Q, h => by
    simp only [PD] at h
    obtain ⟨b, hg, h0, h1⟩ := h
    cases b with
    | false =>
      obtain ⟨k, loc1, H1, hr, hq⟩ := pd_sound l _ _ _ H Q (h0 rfl)
      exact ⟨k, loc1, H1, by simp only [runDraw, hg]; exact hr, hq⟩
    | true =>
      have h1 := h1 rfl
      have xc : PDX A o.o (o.args.map (evalOpd env loc)) (gather o.bef bs) (gather o.bef ts) H (fun v H1 => PD A env l (v :: loc) (none :: ts) (none :: bs) H1 Q) → ∃ k loc1 H1, (match opStep (callK A k) o.o (o.args.map (evalOpd env loc)) (hide (gather o.bef bs) H) with
            | some (.ok v H1) => if (gather o.bef ts).all (fun b => obEq H1[b]? (hide (gather o.bef bs) H)[b]?) then runDraw (callK A k) env l (v :: loc) (none :: ts) (none :: bs) (unhide (gather o.bef bs) H H1) else none
            | _ => none) = some (loc1, H1) ∧ Q loc1 H1 := by
        intro h
        obtain ⟨k, v, H1, hr, hk, hp⟩ := pstep_sound h
        obtain ⟨m, loc1, H2, hr2, hq⟩ := pd_sound l _ _ _ _ Q hp
        refine ⟨max k m, loc1, H2, ?_, hq⟩
        rw [op_mono (callK_mono A k (max k m) (by omega)) hr]
        simp only
        rw [if_pos (List.all_eq_true.2 fun b hb => obEq_of (hk b hb))]
        exact draw_mono (callK_mono A m (max k m) (by omega)) l _ _ _ _ _ hr2
      cases hao : o.o with
      | N no =>
        rw [hao] at h1
        simp only at h1
        obtain ⟨x, hx, hp⟩ := h1
        cases x with
        | val v =>
          obtain ⟨k, loc1, H1, hr, hq⟩ := pd_sound l _ _ _ _ Q hp
          exact ⟨k, loc1, H1, by simp only [runDraw, hg, hao, hx]; exact hr, hq⟩
        | new ob mk =>
          obtain ⟨k, loc1, H1, hr, hq⟩ := pd_sound l _ _ _ _ Q hp
          exact ⟨k, loc1, H1, by simp only [runDraw, hg, hao, hx]; exact hr, hq⟩
      | X xo =>
        rw [hao] at h1 xc; simp only at h1
        obtain ⟨k, loc1, H1, hr, hq⟩ := xc h1
        exact ⟨k, loc1, H1, by simp only [runDraw, hg, hao]; exact hr, hq⟩
      | call f =>
        rw [hao] at h1 xc; simp only at h1
        obtain ⟨k, loc1, H1, hr, hq⟩ := xc h1
        exact ⟨k, loc1, H1, by simp only [runDraw, hg, hao]; exact hr, hq⟩
      | calli tmp f =>
        rw [hao] at h1 xc; simp only at h1
        obtain ⟨k, loc1, H1, hr, hq⟩ := xc h1
        exact ⟨k, loc1, H1, by simp only [runDraw, hg, hao]; exact hr, hq⟩
      | callv =>
        rw [hao] at h1 xc; simp only at h1
        obtain ⟨k, loc1, H1, hr, hq⟩ := xc h1
        exact ⟨k, loc1, H1, by simp only [runDraw, hg, hao]; exact hr, hq⟩
      | callp f =>
        rw [hao] at h1 xc; simp only at h1
        obtain ⟨k, loc1, H1, hr, hq⟩ := xc h1
        exact ⟨k, loc1, H1, by simp only [runDraw, hg, hao]; exact hr, hq⟩
      | panic =>
        rw [hao] at h1 xc; simp only at h1
        obtain ⟨k, loc1, H1, hr, hq⟩ := xc h1
        exact ⟨k, loc1, H1, by simp only [runDraw, hg, hao]; exact hr, hq⟩
      | inv tbl =>
        rw [hao] at h1 xc; simp only at h1
        obtain ⟨k, loc1, H1, hr, hq⟩ := xc h1
        exact ⟨k, loc1, H1, by simp only [runDraw, hg, hao]; exact hr, hq⟩
theorem pc_sound {A : AProg} : ∀ (ac : ACode) (st : St) (Q : Ex → St → Prop), PC A ac st Q → ∃ k ex st', runC (callK A k) k ac st = some (ex, st') ∧ Q ex st' := by
  intro ac
  induction ac with
  | skip => intro st Q h; exact ⟨0, .norm, st, rfl, h⟩
  | lab => intro st Q h; exact ⟨0, .norm, st, rfl, h⟩
  | ret => intro st Q h; exact ⟨0, .ret, st, rfl, h⟩
  | exit id => intro st Q h; exact ⟨0, .exit id, st, rfl, h⟩
  | reg draw l outs =>
    intro st Q h
    cases draw with
    | false =>
      obtain ⟨k, out, hr, hq⟩ := po_sound l _ _ _ _ h
      cases out with
      | ok loc H => exact ⟨k, .norm, _, by simp only [runC, hr], hq⟩
      | pan v H => exact ⟨k, .pan v, _, by simp only [runC, hr], hq⟩
    | true =>
      obtain ⟨k, loc, H, hr, hq⟩ := pd_sound l _ _ _ _ _ h
      exact ⟨k, .norm, _, by simp only [runC, hr], hq⟩
  | seq x y ihx ihy =>
    intro st Q h
    obtain ⟨k, e, s, hr, hq⟩ := ihx st _ h
    cases e with
    | norm =>
      obtain ⟨m, e2, s2, hr2, hq2⟩ := ihy s Q hq
      refine ⟨max k m, e2, s2, ?_, hq2⟩
      simp only [runC]
      rw [code_mono (callK_mono A k (max k m) (by omega)) (by omega : k ≤ max k m) _ _ _ hr]
      exact code_mono (callK_mono A m (max k m) (by omega)) (by omega : m ≤ max k m) _ _ _ hr2
    | ret => exact ⟨k, .ret, s, by simp only [runC, hr], hq⟩
    | exit id => exact ⟨k, .exit id, s, by simp only [runC, hr], hq⟩
    | pan v => exact ⟨k, .pan v, s, by simp only [runC, hr], hq⟩
  | cond c t f iht ihf =>
    intro st Q h
    obtain ⟨b, hb, h1, h2⟩ := h
    cases b with
    | true =>
      obtain ⟨k, e, s, hr, hq⟩ := iht st Q (h1 rfl)
      exact ⟨k, e, s, by simp only [runC, hb]; exact hr, hq⟩
    | false =>
      obtain ⟨k, e, s, hr, hq⟩ := ihf st Q (h2 rfl)
      exact ⟨k, e, s, by simp only [runC, hb]; exact hr, hq⟩
  | block id b ih =>
    intro st Q h
    obtain ⟨k, e, s, hr, hq⟩ := ih st _ h
    cases e with
    | exit id' =>
      simp only at hq
      split at hq
      · rename_i e; exact ⟨k, .norm, s, by simp only [runC, hr, if_pos e], hq⟩
      · rename_i e; exact ⟨k, .exit id', s, by simp only [runC, hr, if_neg e], hq⟩
    | norm => exact ⟨k, .norm, s, by simp only [runC, hr], hq⟩
    | ret => exact ⟨k, .ret, s, by simp only [runC, hr], hq⟩
    | pan v => exact ⟨k, .pan v, s, by simp only [runC, hr], hq⟩
  | loop b ih =>
    intro st Q h
    obtain ⟨n, hn⟩ := h
    have key : ∀ (n : Nat) (st : St), PIt (PC A b) Q n st → ∃ k ex st', iter (runC (callK A k) k b) n st = some (ex, st') ∧ Q ex st' := by
      intro n
      induction n with
      | zero => intro st h; exact h.elim
      | succ n ihn =>
        intro st h
        obtain ⟨k, e, s, hr, hq⟩ := ih st _ h
        cases e with
        | norm =>
          obtain ⟨m, e2, s2, hr2, hq2⟩ := ihn s hq
          refine ⟨max k m, e2, s2, ?_, hq2⟩
          simp only [iter]
          rw [code_mono (callK_mono A k (max k m) (by omega)) (by omega : k ≤ max k m) _ _ _ hr]
          exact iter_mono (fun st r h => code_mono (callK_mono A m (max k m) (by omega)) (by omega : m ≤ max k m) _ _ _ h) n n s _ (Nat.le_refl _) hr2
        | ret => exact ⟨k, .ret, s, by simp only [iter, hr], hq⟩
        | exit id => exact ⟨k, .exit id, s, by simp only [iter, hr], hq⟩
        | pan v => exact ⟨k, .pan v, s, by simp only [iter, hr], hq⟩
    obtain ⟨k, e, s, hr, hq⟩ := key n st hn
    refine ⟨max k n, e, s, ?_, hq⟩
    simp only [runC]
    exact iter_mono (fun st r h => code_mono (callK_mono A k (max k n) (by omega)) (by omega : k ≤ max k n) _ _ _ h) n (max k n) st _ (by omega) hr
  | scope b ih => intro st Q h; exact ih st Q h

/-- A function's contract, out of its body. -/
theorem pcall_of {A : AProg} {f : Nat} {F : AFn} {args : List AV} {H : Heap} {K : AV → Heap → Prop} (hx : A.ext f = none) (hF : A.fns.lookup f = some F) (hn : args.length = F.np)
    (h : PC A F.body (env0 F args, H) fun ex st => match ex with
      | .norm | .ret => ∃ vs, resVs st.1 st.2 F.res = some vs ∧ K (pack vs) st.2
      | _ => False) : PCall A f args H K := by
  obtain ⟨k, e, s, hr, hq⟩ := pc_sound _ _ _ h
  refine ⟨k + 1, ?_⟩
  cases e with
  | norm =>
    obtain ⟨vs, hv, hk⟩ := hq
    exact ⟨pack vs, s.2, by simp only [callK, hx, hF, if_pos hn, hr, finish, hv], hk⟩
  | ret =>
    obtain ⟨vs, hv, hk⟩ := hq
    exact ⟨pack vs, s.2, by simp only [callK, hx, hF, if_pos hn, hr, finish, hv], hk⟩
  | exit id => exact hq.elim
  | pan v => exact hq.elim
/-- The like, where it may panic. -/
theorem pcallE_of {A : AProg} {f : Nat} {F : AFn} {args : List AV} {H : Heap} {K Kp : AV → Heap → Prop} (hx : A.ext f = none) (hF : A.fns.lookup f = some F) (hn : args.length = F.np)
    (h : PC A F.body (env0 F args, H) fun ex st => match ex with
      | .norm | .ret => ∃ vs, resVs st.1 st.2 F.res = some vs ∧ K (pack vs) st.2
      | .pan v => Kp v st.2
      | _ => False) : PCallE A f args H K Kp := by
  obtain ⟨k, e, s, hr, hq⟩ := pc_sound _ _ _ h
  refine ⟨k + 1, ?_⟩
  cases e with
  | norm =>
    obtain ⟨vs, hv, hk⟩ := hq
    exact ⟨.ok (pack vs) s.2, by simp only [callK, hx, hF, if_pos hn, hr, finish, hv], hk⟩
  | ret =>
    obtain ⟨vs, hv, hk⟩ := hq
    exact ⟨.ok (pack vs) s.2, by simp only [callK, hx, hF, if_pos hn, hr, finish, hv], hk⟩
  | exit id => exact hq.elim
  | pan v => exact ⟨.pan v s.2, by simp only [callK, hx, hF, if_pos hn, hr, finish], hq⟩
theorem PCallE.mono {A : AProg} {f : Nat} {vs : List AV} {H : Heap} {K K' Kp Kp' : AV → Heap → Prop} (h : PCallE A f vs H K Kp) (hk : ∀ v H1, K v H1 → K' v H1) (hp : ∀ v H1, Kp v H1 → Kp' v H1) : PCallE A f vs H K' Kp' := by
  obtain ⟨k, out, hr, q⟩ := h
  refine ⟨k, out, hr, ?_⟩
  cases out with
  | ok v H1 => exact hk _ _ q
  | pan v H1 => exact hp _ _ q
theorem PCall.e {A : AProg} {f : Nat} {vs : List AV} {H : Heap} {K Kp : AV → Heap → Prop} (h : PCall A f vs H K) : PCallE A f vs H K Kp :=
  let ⟨k, v, H1, hr, q⟩ := h; ⟨k, .ok v H1, hr, q⟩
theorem PCall.mono {A : AProg} {f : Nat} {vs : List AV} {H : Heap} {K K' : AV → Heap → Prop} (h : PCall A f vs H K) (hk : ∀ v H1, K v H1 → K' v H1) : PCall A f vs H K' :=
  let ⟨k, v, H1, hr, q⟩ := h; ⟨k, v, H1, hr, hk _ _ q⟩
theorem PStep.mono {A : AProg} {o : AOp} {vs : List AV} {H : Heap} {K K' : AV → Heap → Prop} (h : PStep A o vs H K) (hk : ∀ v H1, K v H1 → K' v H1) : PStep A o vs H K' := by
  cases o <;> simp only [PStep] at h ⊢
  · obtain ⟨r, hr, q⟩ := h
    exact ⟨r, hr, by cases r <;> exact hk _ _ q⟩
  · obtain ⟨r, hr, q⟩ := h; exact ⟨r, hr, hk _ _ q⟩
  · exact h.mono hk
  · obtain ⟨vs', H', hv, r, hp, hsc, q⟩ := h; exact ⟨vs', H', hv, r, hp, hsc, hk _ _ q⟩
  · split at h
    · exact h.mono hk
    · exact h.elim
  · split at h
    · split at h
      · exact h.mono hk
      · exact h.elim
    · exact h.elim
theorem PSX.mono {A : AProg} {o : AOp} {vs : List AV} {H : Heap} {K K' Kp Kp' : AV → Heap → Prop} (h : PSX A o vs H K Kp) (hk : ∀ v H1, K v H1 → K' v H1) (hp : ∀ v H1, Kp v H1 → Kp' v H1) : PSX A o vs H K' Kp' := by
  cases o with
  | callp f => exact PCallE.mono h hk hp
  | panic =>
    simp only [PSX] at h ⊢
    split at h
    · exact hp _ _ h
    · exact h.elim
  | N no => exact PStep.mono (A := A) (o := .N no) h hk
  | X xo => exact PStep.mono (A := A) (o := .X xo) h hk
  | call f => exact PStep.mono (A := A) (o := .call f) h hk
  | calli tmp f => exact PStep.mono (A := A) (o := .calli tmp f) h hk
  | callv => exact PStep.mono (A := A) (o := .callv) h hk
  | inv tbl => exact PStep.mono (A := A) (o := .inv tbl) h hk
theorem PO.mono {A : AProg} {env : List AV} : ∀ {l : List AOper} {loc : List AV} {H : Heap} {Q Q' : List AV → Heap → Prop} {Qp Qp' : AV → Heap → Prop}, PO A env l loc H Q Qp → (∀ loc H, Q loc H → Q' loc H) → (∀ v H, Qp v H → Qp' v H) → PO A env l loc H Q' Qp'
  | [], loc, H, Q, Q', Qp, Qp', h, hq, hp => hq _ _ h
  | o :: l, loc, H, Q, Q', Qp, Qp', h, hq, hp => by
    simp only [PO] at h ⊢
    obtain ⟨b, hg, h0, h1⟩ := h
    exact ⟨b, hg, fun e => (h0 e).mono hq hp, fun e => (h1 e).mono (fun v H1 q => PO.mono q hq hp) hp⟩
theorem PD.mono {A : AProg} {env : List AV} : ∀ {l : List AOper} {loc : List AV} {ts bs : List (Option Nat)} {H : Heap} {Q Q' : List AV → Heap → Prop}, PD A env l loc ts bs H Q → (∀ loc H, Q loc H → Q' loc H) → PD A env l loc ts bs H Q'
  | [], loc, ts, bs, H, Q, Q', h, hq => hq _ _ h
  | o :: l, loc, ts, bs, H, Q, Q', h, hq => by
    simp only [PD] at h ⊢
    obtain ⟨b, hg, h0, h1⟩ := h
    refine ⟨b, hg, fun e => PD.mono (h0 e) hq, fun e => ?_⟩
    have h1 := h1 e
    split at h1
    · obtain ⟨x, hx, q⟩ := h1
      refine ⟨x, hx, ?_⟩
      cases x <;> exact PD.mono q hq
    · exact PStep.mono h1 fun v H1 q => ⟨q.1, PD.mono q.2 hq⟩
theorem PIt.mono {W : St → (Ex → St → Prop) → Prop} (hW : ∀ st Q Q', W st Q → (∀ e s, Q e s → Q' e s) → W st Q') {Q Q' : Ex → St → Prop} (hq : ∀ e s, Q e s → Q' e s) : ∀ {n : Nat} {st : St}, PIt W Q n st → PIt W Q' n st
  | 0, _, h => h.elim
  | n + 1, st, h => hW st _ _ h fun e s q => by
    cases e with
    | norm => exact PIt.mono hW hq q
    | ret => exact hq _ _ q
    | exit id => exact hq _ _ q
    | pan v => exact hq _ _ q
theorem PC.mono {A : AProg} : ∀ {ac : ACode} {st : St} {Q Q' : Ex → St → Prop}, PC A ac st Q → (∀ e s, Q e s → Q' e s) → PC A ac st Q' := by
  intro ac
  induction ac with
  | skip | lab | ret | exit => intro st Q Q' h hq; exact hq _ _ h
  | reg draw l outs =>
    intro st Q Q' h hq
    cases draw with
    | false => exact PO.mono h (fun loc H q => hq _ _ q) fun v H q => hq _ _ q
    | true => exact PD.mono h fun loc H q => hq _ _ q
  | seq x y ihx ihy =>
    intro st Q Q' h hq
    refine ihx h fun e s q => ?_
    cases e with
    | norm => exact ihy q hq
    | ret => exact hq _ _ q
    | exit id => exact hq _ _ q
    | pan v => exact hq _ _ q
  | cond c t f iht ihf =>
    intro st Q Q' h hq
    obtain ⟨b, hb, h1, h2⟩ := h
    exact ⟨b, hb, fun e => iht (h1 e) hq, fun e => ihf (h2 e) hq⟩
  | block id b ih =>
    intro st Q Q' h hq
    refine ih h fun e s q => ?_
    cases e with
    | exit id' =>
      simp only at q ⊢
      split at q
      · rename_i e; rw [if_pos e]; exact hq _ _ q
      · rename_i e; rw [if_neg e]; exact hq _ _ q
    | norm => exact hq _ _ q
    | ret => exact hq _ _ q
    | pan v => exact hq _ _ q
  | loop b ih =>
    intro st Q Q' h hq
    obtain ⟨n, hn⟩ := h
    exact ⟨n, PIt.mono (W := PC A b) (fun st Q Q' h hq => ih h hq) hq hn⟩
  | scope b ih => intro st Q Q' h hq; exact ih h hq

/-- A LOOP: what holds at each round's head, and a number that each round lowers. -/
theorem pc_loop {A : AProg} {b : ACode} {st : St} {Q : Ex → St → Prop} (I : Nat → St → Prop) (n : Nat) (h0 : I n st)
    (hstep : ∀ n st, I n st → PC A b st fun ex st' => match ex with
      | .norm => ∃ m, m < n ∧ I m st'
      | ex => Q ex st') : PC A (.loop b) st Q := by
  have key : ∀ (n : Nat) (st : St), I n st → PIt (PC A b) Q (n + 1) st := by
    intro n
    induction n using Nat.strongRecOn with
    | _ n ih =>
      intro st h
      refine PC.mono (hstep n st h) fun e s q => ?_
      cases e with
      | norm =>
        obtain ⟨m, hm, hi⟩ := q
        have hk := ih m hm s hi
        -- more rounds do no harm
        have more : ∀ (n m : Nat) (st : St), n ≤ m → PIt (PC A b) Q n st → PIt (PC A b) Q m st := by
          intro n
          induction n with
          | zero => intro m st _ h; exact h.elim
          | succ n ihn =>
            intro m st hle h
            obtain ⟨m, rfl⟩ : ∃ k, m = k + 1 := ⟨m - 1, by omega⟩
            refine PC.mono h fun e s q => ?_
            cases e with
            | norm => exact ihn m s (by omega) q
            | ret => exact q
            | exit id => exact q
            | pan v => exact q
        exact more (m + 1) n s (by omega) hk
      | ret => exact q
      | exit id => exact q
      | pan v => exact q
  exact ⟨n + 1, key n st h0⟩
end Go.Ai
/- Small facts for the proofs over the abstract machine: one step at a time, from the front. -/
namespace Go.Ai
set_option linter.unusedVariables false
set_option linter.unusedSimpArgs false
theorem ite_bool (c : Prop) [Decidable c] (a b : Bool) : (if c then AV.bool a else AV.bool b) = AV.bool (if c then a else b) := by split <;> rfl
theorem ite_int (c : Prop) [Decidable c] (k : IntKind) (a b : Int) : (if c then AV.int k a else AV.int k b) = AV.int k (if c then a else b) := by split <;> rfl
theorem lt_more {a b : Nat} (c : Nat) (h : a < b) : (a < b + c) = True := by simp; omega
theorem wrap_in {n : Int} (h1 : -9223372036854775808 ≤ n) (h2 : n ≤ 9223372036854775807) : IntKind.i64.wrap n = n := by
  simp [IntKind.wrap, IntKind.bits, IntKind.signed]; omega

/-- What comes later is not looked at ahead of its time: a part of a goal into which 'simp' does not look. -/
abbrev Tg {α : Type} (_ : α) : Type := Unit
def hid {α : Type} (a : α) (_ : Tg a) : α := a
theorem hid_p (P : Prop) : hid P () = P := Eq.trans rfl rfl
theorem hid_k (K : AV → Heap → Prop) (v : AV) (H : Heap) : hid K () v H = K v H := Eq.trans rfl rfl
theorem hid_v (K : AV → Prop) (v : AV) : hid K () v = K v := Eq.trans rfl rfl
theorem hid_o (K : List AV → Heap → Prop) (v : List AV) (H : Heap) : hid K () v H = K v H := Eq.trans rfl rfl
theorem hid_q (Q : Ex → St → Prop) (e : Ex) (st : St) : hid Q () e st = Q e st := Eq.trans rfl rfl
def KNO (H : Heap) (K : AV → Heap → Prop) (r : Option NRes) : Prop := ∃ x, r = some x ∧ KN H K x
def KXO (K : AV → Heap → Prop) (r : Option (AV × Heap)) : Prop := ∃ x, r = some x ∧ K x.1 x.2
def KB (v : AV) (P R : Prop) : Prop := ∃ b, v = .bool b ∧ (b = true → P) ∧ (b = false → R)
theorem getD_z (x d : AV) (xs : List AV) : (x :: xs).getD 0 d = x := rfl
theorem getD_s (x d : AV) (xs : List AV) (n : Nat) : (x :: xs).getD (n + 1) d = xs.getD n d := rfl
theorem int_bne (a b : Int) : (a != b) = !(decide (a = b)) := by by_cases h : a = b <;> simp [h]
theorem int_beq (a b : Int) : (a == b) = decide (a = b) := by by_cases h : a = b <;> simp [h]
theorem b_add (k : IntKind) (a b : Int) : binV .add (.int k a) (.int k b) = some (.int k (k.wrap (a + b))) := by simp [binV]
theorem b_sub (k : IntKind) (a b : Int) : binV .sub (.int k a) (.int k b) = some (.int k (k.wrap (a - b))) := by simp [binV]
theorem b_mul (k : IntKind) (a b : Int) : binV .mul (.int k a) (.int k b) = some (.int k (k.wrap (a * b))) := by simp [binV]
theorem b_eql (k : IntKind) (a b : Int) : binV .eql (.int k a) (.int k b) = some (.bool (a == b)) := by simp [binV]
theorem b_neq (k : IntKind) (a b : Int) : binV .neq (.int k a) (.int k b) = some (.bool (a != b)) := by simp [binV]
theorem b_lss (k : IntKind) (a b : Int) : binV .lss (.int k a) (.int k b) = some (.bool (decide (a < b))) := by simp [binV]
theorem b_leq (k : IntKind) (a b : Int) : binV .leq (.int k a) (.int k b) = some (.bool (decide (a ≤ b))) := by simp [binV]
theorem b_gtr (k : IntKind) (a b : Int) : binV .gtr (.int k a) (.int k b) = some (.bool (decide (a > b))) := by simp [binV]
theorem b_geq (k : IntKind) (a b : Int) : binV .geq (.int k a) (.int k b) = some (.bool (decide (a ≥ b))) := by simp [binV]
theorem b_rem (k : IntKind) (a b : Int) (h : b ≠ 0) : binV .rem (.int k a) (.int k b) = some (.int k (a.tmod b)) := by simp [binV, h]
theorem b_quo (k : IntKind) (a b : Int) (h : b ≠ 0) : binV .quo (.int k a) (.int k b) = some (.int k (k.wrap (a.tdiv b))) := by simp [binV, h]
theorem b_and16 (a : Int) : binV .and (.int .i64 a) (.int .i64 65535) = some (.int .i64 (a % 65536)) := by
  have e : ((BitVec.ofInt 64 a &&& BitVec.ofInt 64 65535).toNat : Int) = a % 65536 := by
    rw [BitVec.toNat_and, BitVec.toNat_ofInt, BitVec.toNat_ofInt]
    have h2 : ((65535 : Int) % ((2 ^ 64 : Nat) : Int)).toNat = 2 ^ 16 - 1 := by decide
    rw [h2, Nat.and_two_pow_sub_one_eq_mod]
    have h1 : (0 : Int) ≤ a % ((2 ^ 64 : Nat) : Int) := Int.emod_nonneg _ (by decide)
    rw [Int.natCast_emod, Int.toNat_of_nonneg h1]
    exact Int.emod_emod_of_dvd a (by decide)
  have e2 : binV .and (.int .i64 a) (.int .i64 65535) = some (.int .i64 (IntKind.i64.wrap ((BitVec.ofInt 64 a &&& BitVec.ofInt 64 65535).toNat : Int))) := rfl
  rw [e2, e, wrap_in (by omega) (by omega)]

/-- A guard. -/
def gv (v : AV) (w : Bool) : Option Bool :=
  match v with
  | .bool b => some (b == w)
  | .tup [] => some false
  | _ => none
def KG (v : AV) (w : Bool) (P R : Prop) : Prop := ∃ b, gv v w = some b ∧ (b = true → P) ∧ (b = false → R)
theorem KG_skip (w : Bool) (P R : Prop) : KG (.tup []) w P (hid R ()) = R := by simp [KG, gv, hid]
theorem KG_tt (P R : Prop) : KG (.bool true) true (hid P ()) R = P := by simp [KG, gv, hid]
theorem KG_ff (P R : Prop) : KG (.bool false) false (hid P ()) R = P := by simp [KG, gv, hid]
theorem KG_tf (P R : Prop) : KG (.bool true) false P (hid R ()) = R := by simp [KG, gv, hid]
theorem KG_ft (P R : Prop) : KG (.bool false) true P (hid R ()) = R := by simp [KG, gv, hid]
theorem KG_var (b w : Bool) (P R : Prop) : KG (.bool b) w P R = if b = w then P else R := by cases b <;> cases w <;> simp [KG, gv]
theorem KNO_val (H : Heap) (K : AV → Heap → Prop) (v : AV) : KNO H K (some (.val v)) = K v H := by simp [KNO, KN]
theorem KNO_new (H : Heap) (K : AV → Heap → Prop) (ob : Ob) (mk : Nat → AV) : KNO H K (some (.new ob mk)) = K (mk H.length) (H ++ [ob]) := by simp [KNO, KN]
theorem KNO_ite (H : Heap) (K : AV → Heap → Prop) (c : Prop) [Decidable c] (x : Option NRes) : KNO H K (if c then x else none) = (c ∧ KNO H K x) := by by_cases h : c <;> simp [KNO, h]
theorem KNO_map {α : Type} (H : Heap) (K : AV → Heap → Prop) (f : α → NRes) (x : α) : KNO H K (Option.map f (some x)) = KNO H K (some (f x)) := Eq.trans rfl rfl
theorem KXO_some (K : AV → Heap → Prop) (v : AV) (H : Heap) : KXO K (some (v, H)) = K v H := by simp [KXO]
theorem KXO_ite (K : AV → Heap → Prop) (c : Prop) [Decidable c] (x : Option (AV × Heap)) : KXO K (if c then x else none) = (c ∧ KXO K x) := by by_cases h : c <;> simp [KXO, h]
theorem KB_true (P R : Prop) : KB (.bool true) (hid P ()) R = P := by simp [KB, hid]
theorem KB_false (P R : Prop) : KB (.bool false) P (hid R ()) = R := by simp [KB, hid]
theorem KB_dec (p : Prop) [Decidable p] (P R : Prop) : KB (.bool (decide p)) P R = if p then P else R := by by_cases h : p <;> simp [KB, h]
theorem KB_var (b : Bool) (P R : Prop) : KB (.bool b) P R = if b = true then P else R := by cases b <;> simp [KB]

theorem one_bool (b : Bool) : AV.one (.bool b) = true := rfl
theorem cells_bool (b : Bool) : AV.cells (.bool b) = [.bool b] := rfl
theorem one_int (k : IntKind) (n : Int) : AV.one (.int k n) = true := rfl
theorem cells_int (k : IntKind) (n : Int) : AV.cells (.int k n) = [.int k n] := rfl
theorem one_str (s : ByteArray) : AV.one (.str s) = true := rfl
theorem cells_str (s : ByteArray) : AV.cells (.str s) = [.str s] := rfl
theorem one_nilp  : AV.one (.nilp) = true := rfl
theorem cells_nilp  : AV.cells (.nilp) = [.nilp] := rfl
theorem one_ptr (b g o : Nat) : AV.one (.ptr b g o) = true := rfl
theorem cells_ptr (b g o : Nat) : AV.cells (.ptr b g o) = [.ptr b g o] := rfl
theorem one_nils  : AV.one (.nils) = true := rfl
theorem cells_nils  : AV.cells (.nils) = [.nils] := rfl
theorem one_sl (b g o n sz cl : Nat) (ex : Bool) : AV.one (.sl b g o n sz cl ex) = true := rfl
theorem cells_sl (b g o n sz cl : Nat) (ex : Bool) : AV.cells (.sl b g o n sz cl ex) = [.sl b g o n sz cl ex] := rfl
theorem one_nilf  : AV.one (.nilf) = true := rfl
theorem cells_nilf  : AV.cells (.nilf) = [.nilf] := rfl
theorem one_fn (f : Fn) (x y : List AV) : AV.one (.fn f x y) = true := rfl
theorem cells_fn (f : Fn) (x y : List AV) : AV.cells (.fn f x y) = [.fn f x y] := rfl
theorem one_nili  : AV.one (.nili) = true := rfl
theorem cells_nili  : AV.cells (.nili) = [.nili] := rfl
theorem one_mp (b : Nat) : AV.one (.mp b) = true := rfl
theorem cells_mp (b : Nat) : AV.cells (.mp b) = [.mp b] := rfl
theorem one_nilm  : AV.one (.nilm) = true := rfl
theorem cells_nilm  : AV.cells (.nilm) = [.nilm] := rfl
theorem one_iface (t : TypeId) (v : AV) : AV.one (.iface t v) = true := rfl
theorem cells_iface (t : TypeId) (v : AV) : AV.cells (.iface t v) = [.iface t v] := rfl
theorem cells_agg (xs : List AV) : AV.cells (.agg xs) = xs := rfl
variable {A : AProg}
theorem PO_nil (env loc : List AV) (H : Heap) (Q : List AV → Heap → Prop) (Qp : AV → Heap → Prop) : PO A env [] loc H Q Qp = Q loc H := Eq.trans rfl rfl
theorem PO_none (env loc : List AV) (ix : Nat) (o : AOp) (args : List AOpd) (bef : Nat) (r : List AOper) (H : Heap) (Q : List AV → Heap → Prop) (Qp : AV → Heap → Prop) :
    PO A env (⟨ix, o, args, none, bef⟩ :: r) loc H Q Qp = PSX A o (args.map (evalOpd env loc)) H (hid (fun v H1 => PO A env r (v :: loc) H1 Q Qp) ()) Qp := by simp [PO, guardOk, hid]
theorem PO_grd (env loc : List AV) (ix : Nat) (o : AOp) (args : List AOpd) (p : AOpd) (w : Bool) (bef : Nat) (r : List AOper) (H : Heap) (Q : List AV → Heap → Prop) (Qp : AV → Heap → Prop) :
    PO A env (⟨ix, o, args, some (p, w), bef⟩ :: r) loc H Q Qp = KG (evalOpd env loc p) w (hid (PSX A o (args.map (evalOpd env loc)) H (hid (fun v H1 => PO A env r (v :: loc) H1 Q Qp) ()) Qp) ()) (hid (PO A env r (.tup [] :: loc) H Q Qp) ()) := by
  have e : guardOk env loc (some (p, w)) = gv (evalOpd env loc p) w := by
    simp only [guardOk, gv]
    cases evalOpd env loc p with
    | tup xs => cases xs <;> rfl
    | _ => rfl
  simp only [PO, e, KG, hid]
  apply propext
  constructor <;> rintro ⟨b, h, k1, k2⟩ <;> exact ⟨b, h, k2, k1⟩
theorem PSX_N (no : NOp) (vs : List AV) (H : Heap) (K Kp : AV → Heap → Prop) : PSX A (.N no) vs H K Kp = PStep A (.N no) vs H K := rfl
theorem PSX_X (xo : XOp) (vs : List AV) (H : Heap) (K Kp : AV → Heap → Prop) : PSX A (.X xo) vs H K Kp = PStep A (.X xo) vs H K := rfl
theorem PSX_call (f : Nat) (vs : List AV) (H : Heap) (K Kp : AV → Heap → Prop) : PSX A (.call f) vs H K Kp = PStep A (.call f) vs H K := rfl
theorem PSX_calli (tmp : Bool) (f : Nat) (vs : List AV) (H : Heap) (K Kp : AV → Heap → Prop) : PSX A (.calli tmp f) vs H K Kp = PStep A (.calli tmp f) vs H K := rfl
theorem PSX_callv (vs : List AV) (H : Heap) (K Kp : AV → Heap → Prop) : PSX A .callv vs H K Kp = PStep A .callv vs H K := rfl
theorem PSX_inv (tbl : List (Nat × Nat)) (vs : List AV) (H : Heap) (K Kp : AV → Heap → Prop) : PSX A (.inv tbl) vs H K Kp = PStep A (.inv tbl) vs H K := rfl
theorem PSX_callp (f : Nat) (vs : List AV) (H : Heap) (K Kp : AV → Heap → Prop) : PSX A (.callp f) vs H K Kp = PCallE A f vs H K Kp := rfl
theorem PSX_panic (t : TypeId) (u : AV) (H : Heap) (K Kp : AV → Heap → Prop) : PSX A .panic [.iface t u] H K Kp = Kp (.iface t u) H := rfl
/-- What an operation of a drawn row does. -/
def PDO (A : AProg) (o : AOper) (env loc : List AV) (r : List AOper) (ts bs : List (Option Nat)) (H : Heap) (Q : List AV → Heap → Prop) : Prop :=
  match o.o with
  | .N no => ∃ x, nstep no (o.args.map (evalOpd env loc)) (fun b => H[b]?) = some x ∧ (match x with
    | .val v => PD A env r (v :: loc) (ntouch no (o.args.map (evalOpd env loc)) :: ts) (none :: bs) H Q
    | .new ob mk => PD A env r (mk H.length :: loc) (none :: ts) (some H.length :: bs) (H ++ [ob]) Q)
  | ao => PDX A ao (o.args.map (evalOpd env loc)) (gather o.bef bs) (gather o.bef ts) H fun v H1 => PD A env r (v :: loc) (none :: ts) (none :: bs) H1 Q
theorem PD_nil (env loc : List AV) (ts bs : List (Option Nat)) (H : Heap) (Q : List AV → Heap → Prop) : PD A env [] loc ts bs H Q = Q loc H := Eq.trans rfl rfl
theorem PD_none (env loc : List AV) (ts bs : List (Option Nat)) (ix : Nat) (o : AOp) (args : List AOpd) (bef : Nat) (r : List AOper) (H : Heap) (Q : List AV → Heap → Prop) :
    PD A env (⟨ix, o, args, none, bef⟩ :: r) loc ts bs H Q = PDO A ⟨ix, o, args, none, bef⟩ env loc r ts bs H Q := by
  cases o <;> simp [PD, PDO, guardOk]
  all_goals (constructor <;> rintro ⟨x, h, k⟩ <;> exact ⟨x, h, by cases x <;> exact k⟩)
theorem PD_grd (env loc : List AV) (ts bs : List (Option Nat)) (ix : Nat) (o : AOp) (args : List AOpd) (p : AOpd) (w : Bool) (bef : Nat) (r : List AOper) (H : Heap) (Q : List AV → Heap → Prop) :
    PD A env (⟨ix, o, args, some (p, w), bef⟩ :: r) loc ts bs H Q = KG (evalOpd env loc p) w (hid (PDO A ⟨ix, o, args, none, bef⟩ env loc r ts bs H Q) ()) (hid (PD A env r (.tup [] :: loc) (none :: ts) (none :: bs) H Q) ()) := by
  have e : guardOk env loc (some (p, w)) = gv (evalOpd env loc p) w := by
    simp only [guardOk, gv]
    cases evalOpd env loc p with
    | tup xs => cases xs <;> rfl
    | _ => rfl
  simp only [PD, e, KG, hid]
  apply propext
  constructor
  · rintro ⟨b, h, k1, k2⟩
    refine ⟨b, h, fun hb => ?_, k1⟩
    have k2 := k2 hb
    cases o <;> simp only [PDO] at k2 ⊢ <;> first | exact k2 | (obtain ⟨x, h, k⟩ := k2; exact ⟨x, h, by cases x <;> exact k⟩)
  · rintro ⟨b, h, k1, k2⟩
    refine ⟨b, h, k2, fun hb => ?_⟩
    have k1 := k1 hb
    cases o <;> simp only [PDO] at k1 ⊢ <;> first | exact k1 | (obtain ⟨x, h, k⟩ := k1; exact ⟨x, h, by cases x <;> exact k⟩)
def KNOD (A : AProg) (env loc : List AV) (r : List AOper) (t : Option Nat) (ts bs : List (Option Nat)) (H : Heap) (Q : List AV → Heap → Prop) (x : Option NRes) : Prop :=
  ∃ y, x = some y ∧ (match y with
    | .val v => PD A env r (v :: loc) (t :: ts) (none :: bs) H Q
    | .new ob mk => PD A env r (mk H.length :: loc) (none :: ts) (some H.length :: bs) (H ++ [ob]) Q)
theorem KNOD_val (env loc : List AV) (r : List AOper) (t : Option Nat) (ts bs : List (Option Nat)) (H : Heap) (Q : List AV → Heap → Prop) (v : AV) : KNOD A env loc r t ts bs H Q (some (.val v)) = PD A env r (v :: loc) (t :: ts) (none :: bs) H Q := by simp [KNOD]
theorem KNOD_new (env loc : List AV) (r : List AOper) (t : Option Nat) (ts bs : List (Option Nat)) (H : Heap) (Q : List AV → Heap → Prop) (ob : Ob) (mk : Nat → AV) : KNOD A env loc r t ts bs H Q (some (.new ob mk)) = PD A env r (mk H.length :: loc) (none :: ts) (some H.length :: bs) (H ++ [ob]) Q := by simp [KNOD]
theorem KNOD_ite (env loc : List AV) (r : List AOper) (t : Option Nat) (ts bs : List (Option Nat)) (H : Heap) (Q : List AV → Heap → Prop) (c : Prop) [Decidable c] (x : Option NRes) : KNOD A env loc r t ts bs H Q (if c then x else none) = (c ∧ KNOD A env loc r t ts bs H Q x) := by by_cases h : c <;> simp [KNOD, h]
theorem PDO_N (env loc : List AV) (ts bs : List (Option Nat)) (ix : Nat) (no : NOp) (args : List AOpd) (bef : Nat) (r : List AOper) (H : Heap) (Q : List AV → Heap → Prop) :
    PDO A ⟨ix, .N no, args, none, bef⟩ env loc r ts bs H Q = KNOD A env loc r (ntouch no (args.map (evalOpd env loc))) ts bs H Q (nstep no (args.map (evalOpd env loc)) (fun b => H[b]?)) := rfl
theorem PDO_X (env loc : List AV) (ts bs : List (Option Nat)) (ix : Nat) (xo : XOp) (args : List AOpd) (bef : Nat) (r : List AOper) (H : Heap) (Q : List AV → Heap → Prop) :
    PDO A ⟨ix, .X xo, args, none, bef⟩ env loc r ts bs H Q = PDX A (.X xo) (args.map (evalOpd env loc)) (gather bef bs) (gather bef ts) H (hid (fun v H1 => PD A env r (v :: loc) (none :: ts) (none :: bs) H1 Q) ()) := rfl
theorem PDO_call (env loc : List AV) (ts bs : List (Option Nat)) (ix : Nat) (f : Nat) (args : List AOpd) (bef : Nat) (r : List AOper) (H : Heap) (Q : List AV → Heap → Prop) :
    PDO A ⟨ix, .call f, args, none, bef⟩ env loc r ts bs H Q = PDX A (.call f) (args.map (evalOpd env loc)) (gather bef bs) (gather bef ts) H (hid (fun v H1 => PD A env r (v :: loc) (none :: ts) (none :: bs) H1 Q) ()) := rfl
theorem PDO_calli (env loc : List AV) (ts bs : List (Option Nat)) (ix : Nat) (tmp : Bool) (f : Nat) (args : List AOpd) (bef : Nat) (r : List AOper) (H : Heap) (Q : List AV → Heap → Prop) :
    PDO A ⟨ix, .calli tmp f, args, none, bef⟩ env loc r ts bs H Q = PDX A (.calli tmp f) (args.map (evalOpd env loc)) (gather bef bs) (gather bef ts) H (hid (fun v H1 => PD A env r (v :: loc) (none :: ts) (none :: bs) H1 Q) ()) := rfl
theorem PDO_callv (env loc : List AV) (ts bs : List (Option Nat)) (ix : Nat) (args : List AOpd) (bef : Nat) (r : List AOper) (H : Heap) (Q : List AV → Heap → Prop) :
    PDO A ⟨ix, .callv, args, none, bef⟩ env loc r ts bs H Q = PDX A .callv (args.map (evalOpd env loc)) (gather bef bs) (gather bef ts) H (hid (fun v H1 => PD A env r (v :: loc) (none :: ts) (none :: bs) H1 Q) ()) := rfl
theorem PDO_inv (env loc : List AV) (ts bs : List (Option Nat)) (ix : Nat) (tbl : List (Nat × Nat)) (args : List AOpd) (bef : Nat) (r : List AOper) (H : Heap) (Q : List AV → Heap → Prop) :
    PDO A ⟨ix, .inv tbl, args, none, bef⟩ env loc r ts bs H Q = PDX A (.inv tbl) (args.map (evalOpd env loc)) (gather bef bs) (gather bef ts) H (hid (fun v H1 => PD A env r (v :: loc) (none :: ts) (none :: bs) H1 Q) ()) := rfl
theorem PDX_free (o : AOp) (vs : List AV) (H : Heap) (K : AV → Heap → Prop) : PDX A o vs [] [] H K = PStep A o vs H K := by
  simp [PDX, hide, unhide]
theorem PDX_eq (o : AOp) (vs : List AV) (hid' lds : List Nat) (H : Heap) (K : AV → Heap → Prop) : PDX A o vs hid' lds H K = PStep A o vs (hide hid' H) (hid (fun v H1 => (∀ b ∈ lds, H1[b]? = (hide hid' H)[b]?) ∧ K v (unhide hid' H H1)) ()) := Eq.trans rfl rfl
theorem PStep_N (no : NOp) (vs : List AV) (H : Heap) (K : AV → Heap → Prop) : PStep A (.N no) vs H K = KNO H K (nstep no vs (fun b => H[b]?)) := Eq.trans rfl rfl
theorem PStep_X (xo : XOp) (vs : List AV) (H : Heap) (K : AV → Heap → Prop) : PStep A (.X xo) vs H K = KXO K (xstep xo vs H) := Eq.trans rfl rfl
theorem PStep_call (f : Nat) (vs : List AV) (H : Heap) (K : AV → Heap → Prop) : PStep A (.call f) vs H K = PCall A f vs H K := Eq.trans rfl rfl
/-- A call that is made with values alone, and what is done with its answer. -/
def PCallV (A : AProg) (f : Nat) (vs : List AV) (K : AV → Prop) : Prop := ∃ r, PVal A f vs r ∧ K r
def KVA (A : AProg) (tmp : Bool) (f : Nat) (H : Heap) (K : AV → Heap → Prop) (x : Option (List AV × Heap)) : Prop := ∃ vs' H', x = some (vs', H') ∧ PCallV A f vs' fun r => (tmp = true → r.scal = true) ∧ K r (if tmp then H else H')
theorem PStep_calli (tmp : Bool) (f : Nat) (vs : List AV) (H : Heap) (K : AV → Heap → Prop) : PStep A (.calli tmp f) vs H K = KVA A tmp f H K (viewA H vs) := Eq.trans rfl rfl
theorem KVA_t (f : Nat) (H H' : Heap) (K : AV → Heap → Prop) (vs' : List AV) : KVA A true f H K (some (vs', H')) = PCallV A f vs' (hid (fun r => r.scal = true ∧ K r H) ()) := by
  apply propext
  constructor
  · rintro ⟨vs2, H2, e, r, h1, h2, h3⟩; cases e; exact ⟨r, h1, h2 rfl, h3⟩
  · rintro ⟨r, h1, h2, h3⟩; exact ⟨vs', H', rfl, r, h1, fun _ => h2, h3⟩
theorem KVA_f (f : Nat) (H H' : Heap) (K : AV → Heap → Prop) (vs' : List AV) : KVA A false f H K (some (vs', H')) = PCallV A f vs' (hid (fun r => K r H') ()) := by
  apply propext
  constructor
  · rintro ⟨vs2, H2, e, r, h1, h2, h3⟩; cases e; exact ⟨r, h1, h3⟩
  · rintro ⟨r, h1, h3⟩; exact ⟨vs', H', rfl, r, h1, fun h => (by cases h), h3⟩
theorem PVal.unique {f : Nat} {vs : List AV} {r r' : AV} (h : PVal A f vs r) (h' : PVal A f vs r') : r = r' := by
  obtain ⟨k, v, H1, h1, h2⟩ := h
  obtain ⟨m, v', H1', h1', h2'⟩ := h'
  have e1 := callK_mono A k (max k m) (by omega) _ _ _ _ h1
  have e2 := callK_mono A m (max k m) (by omega) _ _ _ _ h1'
  rw [e1] at e2
  cases e2
  rw [h2] at h2'
  exact Option.some.inj h2'
theorem PVal.eq {f : Nat} {vs : List AV} {r : AV} (h : PVal A f vs r) (K : AV → Prop) : PCallV A f vs K = K r := by
  apply propext
  constructor
  · rintro ⟨r', h1, h2⟩; rw [h.unique h1]; exact h2
  · intro h2; exact ⟨r, h, h2⟩
theorem PVal.of {f : Nat} {vs : List AV} {r : AV} (h : PCall A f vs [] fun v H => viewR H v = some r) : PVal A f vs r := by
  obtain ⟨k, v, H1, h1, h2⟩ := h
  exact ⟨k, v, H1, h1, h2⟩
theorem PStep_callv (f : Nat) (first cap args : List AV) (H : Heap) (K : AV → Heap → Prop) : PStep A .callv (.fn (.func f) first cap :: args) H K = PCall A f (first ++ args ++ cap) H K := Eq.trans rfl rfl
/-- A method, by the value's own type. -/
def KI (A : AProg) (v : AV) (args : List AV) (H : Heap) (K : AV → Heap → Prop) (r : Option Nat) : Prop := ∃ f, r = some f ∧ PCall A f (v :: args) H K
theorem KI_some (v : AV) (args : List AV) (H : Heap) (K : AV → Heap → Prop) (f : Nat) : KI A v args H K (some f) = PCall A f (v :: args) H K := by simp [KI]
theorem PStep_inv (tbl : List (Nat × Nat)) (t : TypeId) (v : AV) (args : List AV) (H : Heap) (K : AV → Heap → Prop) : PStep A (.inv tbl) (.iface t v :: args) H K = KI A v args H K (tbl.lookup t) := by
  simp only [PStep, KI]
  cases tbl.lookup t <;> simp
theorem PC_skip (st : St) (Q : Ex → St → Prop) : PC A .skip st Q = Q .norm st := Eq.trans rfl rfl
theorem PC_lab (st : St) (Q : Ex → St → Prop) : PC A .lab st Q = Q .norm st := Eq.trans rfl rfl
theorem PC_ret (st : St) (Q : Ex → St → Prop) : PC A .ret st Q = Q .ret st := Eq.trans rfl rfl
theorem PC_exit (id : Nat) (st : St) (Q : Ex → St → Prop) : PC A (.exit id) st Q = Q (.exit id) st := Eq.trans rfl rfl
theorem PC_reg (ops : List AOper) (outs : List (Nat × Nat)) (env : List AV) (H : Heap) (Q : Ex → St → Prop) : PC A (.reg false ops outs) (env, H) Q = PO A env ops [] H (hid (fun loc H => Q .norm (applyOuts env loc outs, H)) ()) (hid (fun v H => Q (.pan v) (blankOuts env outs, H)) ()) := Eq.trans rfl rfl
theorem PC_draw (ops : List AOper) (outs : List (Nat × Nat)) (env : List AV) (H : Heap) (Q : Ex → St → Prop) : PC A (.reg true ops outs) (env, H) Q = PD A env ops [] [] [] H (hid (fun loc H => Q .norm (applyOuts env loc outs, H)) ()) := Eq.trans rfl rfl
def thenC (A : AProg) (b : ACode) (Q : Ex → St → Prop) (ex : Ex) (st : St) : Prop :=
  match ex with
  | .norm => PC A b st Q
  | ex => Q ex st
theorem thenC_norm (b : ACode) (Q : Ex → St → Prop) (st : St) : thenC A b Q .norm st = PC A b st Q := Eq.trans rfl rfl
theorem thenC_ret (b : ACode) (Q : Ex → St → Prop) (st : St) : thenC A b Q .ret st = Q .ret st := Eq.trans rfl rfl
theorem thenC_exit (b : ACode) (Q : Ex → St → Prop) (st : St) (id : Nat) : thenC A b Q (.exit id) st = Q (.exit id) st := Eq.trans rfl rfl
theorem thenC_pan (b : ACode) (Q : Ex → St → Prop) (st : St) (v : AV) : thenC A b Q (.pan v) st = Q (.pan v) st := Eq.trans rfl rfl
theorem PC_seq (a b : ACode) (st : St) (Q : Ex → St → Prop) : PC A (.seq a b) st Q = PC A a st (hid (thenC A b Q) ()) := Eq.trans rfl rfl
def blockC (id : Nat) (Q : Ex → St → Prop) (ex : Ex) (st : St) : Prop :=
  match ex with
  | .exit id' => if id' = id then Q .norm st else Q (.exit id') st
  | ex => Q ex st
theorem blockC_norm (id : Nat) (Q : Ex → St → Prop) (st : St) : blockC id Q .norm st = Q .norm st := Eq.trans rfl rfl
theorem blockC_ret (id : Nat) (Q : Ex → St → Prop) (st : St) : blockC id Q .ret st = Q .ret st := Eq.trans rfl rfl
theorem blockC_exit (id id' : Nat) (Q : Ex → St → Prop) (st : St) : blockC id Q (.exit id') st = if id' = id then Q .norm st else Q (.exit id') st := Eq.trans rfl rfl
theorem blockC_pan (id : Nat) (Q : Ex → St → Prop) (st : St) (v : AV) : blockC id Q (.pan v) st = Q (.pan v) st := Eq.trans rfl rfl
theorem PC_block (id : Nat) (b : ACode) (st : St) (Q : Ex → St → Prop) : PC A (.block id b) st Q = PC A b st (hid (blockC id Q) ()) := Eq.trans rfl rfl
theorem PC_scope (b : ACode) (st : St) (Q : Ex → St → Prop) : PC A (.scope b) st Q = PC A b st Q := Eq.trans rfl rfl
theorem PC_cond (c : AOpd) (t e : ACode) (st : St) (Q : Ex → St → Prop) : PC A (.cond c t e) st Q = KB (evalOpd st.1 [] c) (hid (PC A t st Q) ()) (hid (PC A e st Q) ()) := Eq.trans rfl rfl
def endC (F : AFn) (K : AV → Heap → Prop) (ex : Ex) (st : St) : Prop :=
  match ex with
  | .norm | .ret => ∃ vs, resVs st.1 st.2 F.res = some vs ∧ K (pack vs) st.2
  | _ => False
def resK (env : List AV) (H : Heap) (rs : List ARes) (K : AV → Heap → Prop) : Prop := ∃ vs, resVs env H rs = some vs ∧ K (pack vs) H
theorem endC_ret (F : AFn) (K : AV → Heap → Prop) (env : List AV) (H : Heap) : endC F K .ret (env, H) = resK env H F.res K := Eq.trans rfl rfl
theorem endC_norm (F : AFn) (K : AV → Heap → Prop) (env : List AV) (H : Heap) : endC F K .norm (env, H) = resK env H F.res K := Eq.trans rfl rfl
theorem resK_none (env : List AV) (H : Heap) (K : AV → Heap → Prop) : resK env H [] K = K (.tup []) H := by simp [resK, resVs, pack]
theorem resK_t (env : List AV) (H : Heap) (j : Nat) (K : AV → Heap → Prop) : resK env H [.t j] K = K (env.getD j .un) H := by simp [resK, resVs, resV, pack]
theorem resK_tt (env : List AV) (H : Heap) (i j : Nat) (K : AV → Heap → Prop) : resK env H [.t i, .t j] K = K (.tup [env.getD i .un, env.getD j .un]) H := by simp [resK, resVs, resV, pack]
def nextC (I : Nat → St → Prop) (_ : Tg I) (n : Nat) (st : St) : Prop := ∃ m, m < n ∧ I m st
def loopC (I : Nat → St → Prop) (n : Nat) (Q : Ex → St → Prop) (ex : Ex) (st : St) : Prop :=
  match ex with
  | .norm => nextC I () n st
  | ex => Q ex st
theorem loopC_norm (I : Nat → St → Prop) (n : Nat) (Q : Ex → St → Prop) (st : St) : loopC I n Q .norm st = nextC I () n st := Eq.trans rfl rfl
theorem loopC_ret (I : Nat → St → Prop) (n : Nat) (Q : Ex → St → Prop) (st : St) : loopC I n Q .ret st = Q .ret st := Eq.trans rfl rfl
theorem loopC_exit (I : Nat → St → Prop) (n id : Nat) (Q : Ex → St → Prop) (st : St) : loopC I n Q (.exit id) st = Q (.exit id) st := Eq.trans rfl rfl
theorem loopC_pan (I : Nat → St → Prop) (n : Nat) (Q : Ex → St → Prop) (st : St) (v : AV) : loopC I n Q (.pan v) st = Q (.pan v) st := Eq.trans rfl rfl
theorem next_mk {I : Nat → St → Prop} {n : Nat} {st : St} (m : Nat) (hm : m < n) (h : I m st) : nextC I () n st := ⟨m, hm, h⟩
def LP (A : AProg) (b : ACode) (_ : Tg b) (st : St) (Q : Ex → St → Prop) : Prop := PC A (.loop b) st Q
theorem PC_loop (b : ACode) (st : St) (Q : Ex → St → Prop) : PC A (.loop b) st Q = LP A b () st Q := Eq.trans rfl rfl
/-- A loop: what holds at its head. -/
theorem pc_loopI {b : ACode} {st : St} {Q : Ex → St → Prop} (I : Nat → St → Prop) (n : Nat) (h0 : I n st) (hstep : ∀ n st, I n st → PC A b st (hid (loopC I n Q) ())) : LP A b () st Q := by
  show PC A (.loop b) st Q
  refine pc_loop I n h0 fun n st h => PC.mono (hstep n st h) fun e s q => ?_
  cases e <;> exact q
/-- A function's contract, out of its body. -/
theorem pcall_in {f : Nat} {F : AFn} {args : List AV} {H : Heap} {K : AV → Heap → Prop} (hx : A.ext f = none) (hF : A.fns.lookup f = some F) (hn : args.length = F.np)
    (h : PC A F.body (args ++ List.replicate (F.names.length - F.np) .un, H) (hid (endC F K) ())) : PCall A f args H K := pcall_of hx hF hn h


/-! The operations, one by one. -/
variable {rd : Nat → Option Ob}
theorem n_mv (v : AV) : nstep .mv [v] rd = some (.val v) := rfl
theorem n_pick (c : Bool) (a b : AV) : nstep .pick [.bool c, a, b] rd = some (.val (if c then a else b)) := rfl
theorem n_bin (op : BinOp) (x y : AV) : nstep (.bin op) [x, y] rd = (binV op x y).map .val := rfl
theorem n_eqB (neg a b : Bool) : nstep (.eqB neg) [.bool a, .bool b] rd = some (.val (.bool ((a == b) != neg))) := rfl
theorem n_eqN (k : Nat) (neg : Bool) (x y : AV) : nstep (.eqN k neg) [x, y] rd = (match x.isNilK k, y.isNilK k with
          | some a, some b => if a || b then some (.val (.bool ((a && b) != neg))) else none
          | _, _ => none) := rfl
theorem n_eqS (ks : List Nat) (neg : Bool) (x y : List AV) : nstep (.eqS ks neg) [.agg x, .agg y] rd = (eqScs ks x y).map fun b => .val (.bool (b != neg)) := rfl
theorem n_un (op : UnOp) (x : AV) : nstep (.un op) [x] rd = (unV op x).map .val := rfl
theorem n_conv (k k' : IntKind) (n : Int) : nstep (.conv k) [.int k' n] rd = some (.val (.int k (k.wrap n))) := rfl
theorem n_fadd (off b g o : Nat) : nstep (.fadd off) [.ptr b g o] rd = some (.val (.ptr b g (o + off))) := rfl
theorem n_fld1 (off : Nat) (xs : List AV) : nstep (.fld1 off) [.agg xs] rd = (xs[off]?).map .val := rfl
theorem n_fldN (off n : Nat) (xs : List AV) : nstep (.fldN off n) [.agg xs] rd = if off + n ≤ xs.length then some (.val (.agg ((xs.drop off).take n))) else none := rfl
theorem n_idx (sz b g o n s2 cl : Nat) (ex : Bool) (k : IntKind) (i : Int) : nstep (.idx sz) [.sl b g o n s2 cl ex, .int k i] rd = if 0 ≤ i ∧ i < (n : Int) then some (.val (.ptr b g (o + i.toNat * sz))) else none := rfl
theorem n_idxA (len sz b g o : Nat) (k : IntKind) (i : Int) : nstep (.idxA len sz) [.ptr b g o, .int k i] rd = if 0 ≤ i ∧ i < (len : Int) then some (.val (.ptr b g (o + i.toNat * sz))) else none := rfl
theorem n_ext (i : Nat) (xs : List AV) : nstep (.ext i) [.tup xs] rd = (xs[i]?).map .val := rfl
theorem n_lenS (b g o n s2 cl : Nat) (ex : Bool) : nstep .lenS [.sl b g o n s2 cl ex] rd = some (.val (.int .i64 n)) := rfl
theorem n_lenS0 : nstep .lenS [.nils] rd = some (.val (.int .i64 0)) := rfl
theorem n_lenT (s : ByteArray) : nstep .lenT [.str s] rd = some (.val (.int .i64 s.size)) := rfl
theorem n_lenA (n : Nat) (v : AV) : nstep (.lenA n) [v] rd = some (.val (.int .i64 n)) := rfl
theorem n_min (x : AV) (xs : List AV) : nstep .min (x :: xs) rd = (foldV minV x xs).map .val := rfl
theorem n_max (x : AV) (xs : List AV) : nstep .max (x :: xs) rd = (foldV maxV x xs).map .val := rfl
theorem n_mki (t : TypeId) (v : AV) : nstep (.mki t) [v] rd = some (.val (.iface t v)) := rfl
theorem n_tas (t t' : TypeId) (z : List AV) (v : AV) : nstep (.tas t z) [.iface t' v] rd = some (.val (if t' = t then .tup [v, .bool true] else .tup [.agg z, .bool false])) := rfl
theorem n_tas0 (t : TypeId) (z : List AV) : nstep (.tas t z) [.nili] rd = some (.val (.tup [.agg z, .bool false])) := rfl
theorem n_tasf (t t' : TypeId) (v : AV) : nstep (.tasf t) [.iface t' v] rd = (if t' = t then some (.val v) else none) := rfl
theorem n_build (z : List AV) (ps : List (Nat × Nat)) (vs : List AV) : nstep (.build z ps) vs rd = (fillA ps vs z).map fun c => .val (.agg c) := rfl
theorem n_mkfn (fn : Fn) (n : Nat) (vs : List AV) : nstep (.mkfn fn n) vs rd = some (.val (.fn fn (vs.take n) (vs.drop n))) := rfl
theorem n_slc (sz : Nat) (lo hi mx : Bool) (b g o n cl : Nat) (ex : Bool) (r : List AV) : nstep (.slc sz lo hi mx) (.sl b g o n sz cl ex :: r) rd = (bounds3 n cl lo hi mx r).map fun (l, h, m) => .val (.sl b g (o + l * sz) (h - l) sz (m - l) (ex || mx)) := by simp [nstep]
theorem n_slc0 (sz : Nat) (lo hi mx : Bool) (r : List AV) : nstep (.slc sz lo hi mx) (.nils :: r) rd = (match bounds3 0 0 lo hi mx r with
          | some (0, 0, 0) => some (.val .nils)
          | _ => none) := rfl
theorem n_slcA (len sz b g o : Nat) (lo hi : Bool) (r : List AV) : nstep (.slcA len sz lo hi) (.ptr b g o :: r) rd = (bounds3 len len lo hi false r).map fun (l, h, m) => .val (.sl b g (o + l * sz) (h - l) sz (m - l) true) := rfl
theorem n_idxV (sz n s2 : Nat) (xs : List AV) (k : IntKind) (i : Int) : nstep (.idx sz) [.vs n s2 xs, .int k i] rd = if s2 = sz ∧ 0 < sz ∧ 0 ≤ i ∧ i < (n : Int) then some (.val (.vp xs (i.toNat * sz))) else none := rfl
theorem n_idxAV (len sz o : Nat) (xs : List AV) (k : IntKind) (i : Int) : nstep (.idxA len sz) [.vp xs o, .int k i] rd = if 0 ≤ i ∧ i < (len : Int) then some (.val (.vp xs (o + i.toNat * sz))) else none := rfl
theorem n_faddV (off o : Nat) (xs : List AV) : nstep (.fadd off) [.vp xs o] rd = some (.val (.vp xs (o + off))) := rfl
theorem n_lenV (n sz : Nat) (xs : List AV) : nstep .lenS [.vs n sz xs] rd = some (.val (.int .i64 n)) := rfl
theorem n_nilcP (b g o : Nat) : nstep .nilc [.ptr b g o] rd = some (.val (.ptr b g o)) := rfl
theorem n_nilcV (xs : List AV) (o : Nat) : nstep .nilc [.vp xs o] rd = some (.val (.vp xs o)) := rfl
theorem n_nilcI (t : TypeId) (v : AV) : nstep .nilc [.iface t v] rd = some (.val (.iface t v)) := rfl
theorem n_nilcF (f : Nat) (a b : List AV) : nstep .nilc [.fn (.func f) a b] rd = some (.val (.fn (.func f) a b)) := rfl
theorem n_slcV (sz : Nat) (lo hi mx : Bool) (n : Nat) (xs r : List AV) : nstep (.slc sz lo hi mx) (.vs n sz xs :: r) rd = (bounds3 n n lo hi mx r).map fun (l, h, m) => .val (if mx ∧ m = l then .sl 0 0 0 0 sz 0 true else .vs (h - l) sz ((xs.drop (l * sz)).take ((h - l) * sz))) := by simp [nstep]
theorem n_load1V (xs : List AV) (o : Nat) : nstep .load1 [.vp xs o] rd = (xs[o]?).map .val := rfl
theorem n_loadNV (n : Nat) (xs : List AV) (o : Nat) : nstep (.loadN n) [.vp xs o] rd = if o + n ≤ xs.length then some (.val (.agg ((xs.drop o).take n))) else none := rfl
theorem src_vs (H : Heap) (n sz : Nat) (xs : List AV) : srcCells H sz (.vs n sz xs) = some (n, xs) := by simp [srcCells]
theorem src_nil (H : Heap) (sz : Nat) : srcCells H sz .nils = some (0, []) := rfl
theorem closeds_nil : AV.closeds [] = true := Eq.trans rfl rfl
theorem closeds_cons (x : AV) (xs : List AV) : AV.closeds (x :: xs) = (x.closed && AV.closeds xs) := Eq.trans rfl rfl
theorem closed_bool (b : Bool) : AV.closed (.bool b) = true := Eq.trans rfl rfl
theorem closed_int (k : IntKind) (n : Int) : AV.closed (.int k n) = true := Eq.trans rfl rfl
theorem closed_str (s : ByteArray) : AV.closed (.str s) = true := Eq.trans rfl rfl
theorem closed_nilp : AV.closed .nilp = true := Eq.trans rfl rfl
theorem closed_nils : AV.closed .nils = true := Eq.trans rfl rfl
theorem closed_nilm : AV.closed .nilm = true := Eq.trans rfl rfl
theorem closed_nilf : AV.closed .nilf = true := Eq.trans rfl rfl
theorem closed_nili : AV.closed .nili = true := Eq.trans rfl rfl
theorem closed_agg (xs : List AV) : AV.closed (.agg xs) = AV.closeds xs := Eq.trans rfl rfl
theorem closed_tup (xs : List AV) : AV.closed (.tup xs) = AV.closeds xs := Eq.trans rfl rfl
theorem closed_vs (n sz : Nat) (xs : List AV) : AV.closed (.vs n sz xs) = AV.closeds xs := Eq.trans rfl rfl
theorem closed_vp (o : Nat) (xs : List AV) : AV.closed (.vp xs o) = AV.closeds xs := Eq.trans rfl rfl
theorem closed_iface (t : TypeId) (v : AV) : AV.closed (.iface t v) = v.closed := Eq.trans rfl rfl
theorem closed_fn (f : Fn) (x y : List AV) : AV.closed (.fn f x y) = (AV.closeds x && AV.closeds y) := Eq.trans rfl rfl
theorem one_vs (n sz : Nat) (xs : List AV) : AV.one (.vs n sz xs) = true := rfl
theorem cells_vs (n sz : Nat) (xs : List AV) : AV.cells (.vs n sz xs) = [.vs n sz xs] := rfl
theorem one_vp (xs : List AV) (o : Nat) : AV.one (.vp xs o) = true := rfl
theorem cells_vp (xs : List AV) (o : Nat) : AV.cells (.vp xs o) = [.vp xs o] := rfl
theorem n_load1 (b g o : Nat) : nstep .load1 [.ptr b g o] rd = (match rd b with
          | some (.cells g' _ c) => if g' = g then (c[o]?).map .val else none
          | _ => none) := rfl
theorem n_loadN (n b g o : Nat) : nstep (.loadN n) [.ptr b g o] rd = (match rd b with
          | some (.cells g' _ c) => if g' = g ∧ o + n ≤ c.length then some (.val (.agg ((c.drop o).take n))) else none
          | _ => none) := rfl
theorem n_alloc (z : List AV) : nstep (.alloc z) [] rd = some (.new (.cells 0 false z) fun b => .ptr b 0 0) := rfl
theorem n_box (v : AV) : nstep .box [v] rd = if v.cells.all (·.one) then some (.new (.cells 0 false v.cells) fun b => .ptr b 0 0) else none := rfl
theorem n_bsl (z : List AV) (n sz : Nat) (ps : List (Nat × Nat)) (vs : List AV) : nstep (.bsl z n sz ps) vs rd = (fillA ps vs (repA z n)).map fun c => .new (.cells 0 false c) fun b => .sl b 0 0 n sz n true := rfl
theorem n_mksl (z : List AV) (sz bytes : Nat) (k k' : IntKind) (l c : Int) : nstep (.mksl z sz bytes) [.int k l, .int k' c] rd = if 0 ≤ l ∧ l ≤ c ∧ c ≤ 4294967296 ∧ c * (bytes : Int) ≤ 140737488355328 then some (.new (.cells 0 false (repA z c.toNat)) fun b => .sl b 0 0 l.toNat sz c.toNat true) else none := rfl
theorem x_store (n b g o : Nat) (v : AV) (H : Heap) : xstep (.store n) [.ptr b g o, v] H = (match H[b]? with
      | some (.cells g' false c) => if g' = g ∧ v.cells.length = n ∧ v.cells.all (·.one) = true ∧ o + n ≤ c.length then some (.un, H.set b (.cells g false (setAt c o v.cells))) else none
      | _ => none) := rfl
theorem x_clear0 (sz : Nat) (z : List AV) (H : Heap) : xstep (.clear sz z) [.nils] H = some (.tup [], H) := rfl
theorem x_clear (sz : Nat) (z : List AV) (b g o n sz' cl : Nat) (ex : Bool) (H : Heap) : xstep (.clear sz z) [.sl b g o n sz' cl ex] H = if n = 0 then some (.tup [], H) else (match H[b]? with
      | some (.cells g' false c) => if g' = g ∧ sz' = sz ∧ z.all (·.one) = true ∧ o + n * sz ≤ c.length then some (.tup [], H.set b (.cells g false (setAt c o (repA z n)))) else none
      | _ => none) := rfl
/-- All that lay lies as it lay. -/
theorem prefix_of {P H : Heap} (h1 : P.length ≤ H.length) (h2 : ∀ b, b < P.length → H[b]? = P[b]?) : ∃ J, H = P ++ J := by
  refine ⟨H.drop P.length, ?_⟩
  apply List.ext_getElem?
  intro i
  rw [List.getElem?_append]
  split
  · rename_i h; exact h2 i h
  · rw [List.getElem?_drop]; congr 1; omega
theorem take2 {c : List AV} {k : Nat} {x y : AV} (h1 : c[k]? = some x) (h2 : c[k + 1]? = some y) : (c.drop k).take 2 = [x, y] := by
  obtain ⟨l1, e1⟩ := List.getElem?_eq_some_iff.1 h1
  obtain ⟨l2, e2⟩ := List.getElem?_eq_some_iff.1 h2
  rw [List.drop_eq_getElem_cons l1, List.drop_eq_getElem_cons l2, e1, e2]; rfl
theorem setAt_2 (a b x y : AV) : setAt [a, b] 0 [x, y] = [x, y] := rfl
theorem setAt_1 (a x : AV) : setAt [a] 0 [x] = [x] := rfl
end Go.Ai
/- The numbers of this seat for the functions. Written by a program of this session. -/
namespace Go.Proofs.Ytdpjeplagapdgaa.M
open Go.Ai Go.Ai.G
set_option maxRecDepth 100000
def tbl : List (Nat × Nat) := [(11, 13), (70, 24), (84, 10), (85, 11), (86, 12), (87, 49), (88, 60), (89, 39), (90, 59), (91, 63), (92, 61), (93, 35), (94, 57), (95, 73), (96, 62), (97, 37), (98, 58), (99, 14), (100, 3), (101, 15), (102, 16), (103, 17), (104, 4), (105, 18), (106, 19), (107, 5), (108, 20), (109, 21), (110, 6), (111, 7), (112, 22), (113, 23), (114, 8), (115, 9), (116, 28), (117, 27), (118, 29), (119, 30), (120, 32), (121, 31), (122, 33), (123, 35), (124, 36), (125, 37), (126, 38), (127, 39), (128, 26), (129, 101)]
def φs (i : Nat) : Nat := (tbl.lookup i).getD 0
def fns : List (Nat × AFn) := [(13, f11 φs), (24, f70 φs), (10, f84 φs), (12, f86 φs), (60, f88 φs), (59, f90 φs), (61, f92 φs), (57, f94 φs), (62, f96 φs), (58, f98 φs), (14, f99 φs), (3, f100 φs), (15, f101 φs), (16, f102 φs), (17, f103 φs), (4, f104 φs), (19, f106 φs), (5, f107 φs), (20, f108 φs), (21, f109 φs), (6, f110 φs), (7, f111 φs), (22, f112 φs), (23, f113 φs), (8, f114 φs), (9, f115 φs), (28, f116 φs), (27, f117 φs), (29, f118 φs), (30, f119 φs), (32, f120 φs), (31, f121 φs), (33, f122 φs), (35, f123 φs), (36, f124 φs), (37, f125 φs), (38, f126 φs), (39, f127 φs), (26, f128 φs)]
end Go.Proofs.Ytdpjeplagapdgaa.M
/- Rows: slices that are values, and slices that are one's own. -/
namespace Go.Ai
set_option linter.unusedVariables false
set_option linter.unusedSimpArgs false

structure Has (A : AProg) (n : Nat) (F : AFn) : Prop where
  x : A.ext n = none
  l : A.fns.lookup n = some F
def endR (rs : List ARes) (K : AV → Heap → Prop) (ex : Ex) (st : St) : Prop :=
  match ex with
  | .norm | .ret => resK st.1 st.2 rs K
  | _ => False
theorem endR_ret (rs : List ARes) (K : AV → Heap → Prop) (env : List AV) (H : Heap) : endR rs K .ret (env, H) = resK env H rs K := Eq.trans rfl rfl
theorem endR_norm (rs : List ARes) (K : AV → Heap → Prop) (env : List AV) (H : Heap) : endR rs K .norm (env, H) = resK env H rs K := Eq.trans rfl rfl
/-- A function's end, where it may panic. -/
def endX (rs : List ARes) (K Kp : AV → Heap → Prop) (ex : Ex) (st : St) : Prop :=
  match ex with
  | .norm | .ret => resK st.1 st.2 rs K
  | .pan v => Kp v st.2
  | _ => False
theorem endX_ret (rs : List ARes) (K Kp : AV → Heap → Prop) (env : List AV) (H : Heap) : endX rs K Kp .ret (env, H) = resK env H rs K := Eq.trans rfl rfl
theorem endX_norm (rs : List ARes) (K Kp : AV → Heap → Prop) (env : List AV) (H : Heap) : endX rs K Kp .norm (env, H) = resK env H rs K := Eq.trans rfl rfl
theorem endX_pan (rs : List ARes) (K Kp : AV → Heap → Prop) (v : AV) (env : List AV) (H : Heap) : endX rs K Kp (.pan v) (env, H) = Kp v H := Eq.trans rfl rfl
theorem pcallE_has {A : AProg} {f : Nat} {F : AFn} {args : List AV} {H : Heap} {K Kp : AV → Heap → Prop} (h : Has A f F) (hn : args.length = F.np)
    (hp : PC A F.body (args ++ List.replicate (F.names.length - F.np) .un, H) (hid (endX F.res K Kp) ())) : PCallE A f args H K Kp := pcallE_of h.x h.l hn (PC.mono hp fun e s q => by cases e <;> exact q)
theorem pcall_has {A : AProg} {f : Nat} {F : AFn} {args : List AV} {H : Heap} {K : AV → Heap → Prop} (h : Has A f F) (hn : args.length = F.np)
    (hp : PC A F.body (args ++ List.replicate (F.names.length - F.np) .un, H) (hid (endR F.res K) ())) : PCall A f args H K := pcall_in h.x h.l hn (PC.mono hp fun e s q => by cases e <;> exact q)
/-- What a function answers that is called with values alone, out of its body. -/
theorem pval_has {A : AProg} {f : Nat} {F : AFn} {args : List AV} {r : AV} (h : Has A f F) (hn : args.length = F.np)
    (hp : PC A F.body (args ++ List.replicate (F.names.length - F.np) .un, []) (hid (endR F.res (fun v H => viewR H v = some r)) ())) : PVal A f args r := PVal.of (pcall_has h hn hp)
theorem pcall_ext {A : AProg} {f : Nat} {x : List AV → Heap → Option (Out AV)} {args : List AV} {H H1 : Heap} {v : AV} {K : AV → Heap → Prop} (he : A.ext f = some x) (hx : x args H = some (.ok v H1)) (hk : K v H1) : PCall A f args H K :=
  ⟨1, v, H1, by simp [callK, he, hx], hk⟩
theorem pval_ext {A : AProg} {f : Nat} {x : List AV → Heap → Option (Out AV)} {args : List AV} {v : AV} (he : A.ext f = some x) (hx : x args [] = some (.ok v [])) (hc : v.closed = true) : PVal A f args v :=
  ⟨1, v, [], by simp [callK, he, hx], viewR_closed hc⟩

/-! ### The cells of numbers and of edges -/
def cI (xs : List Int) : List AV := xs.map (.int .i64 ·)
theorem cI_len (xs : List Int) : (cI xs).length = xs.length := by simp [cI]
theorem cI_get {xs : List Int} {i : Nat} (h : i < xs.length) : (cI xs)[i]? = some (.int .i64 xs[i]) := by simp [cI, h]
theorem cI_append (xs ys : List Int) : cI (xs ++ ys) = cI xs ++ cI ys := by simp [cI]
theorem cI_cons (x : Int) (ys : List Int) : cI (x :: ys) = .int .i64 x :: cI ys := rfl
theorem cI_nil : cI [] = [] := rfl
theorem cI_set (xs : List Int) (i : Nat) (x : Int) : cI (xs.set i x) = (cI xs).set i (.int .i64 x) := by simp [cI, List.map_set]
theorem cI_take (xs : List Int) (n : Nat) : (cI xs).take n = cI (xs.take n) := by simp [cI, List.map_take]
theorem cI_drop (xs : List Int) (n : Nat) : (cI xs).drop n = cI (xs.drop n) := by simp [cI, List.map_drop]
theorem closeds_cI : ∀ (xs : List Int), AV.closeds (cI xs) = true
  | [] => rfl
  | x :: xs => by rw [cI_cons, closeds_cons, closeds_cI xs]; rfl
theorem ones_cI : ∀ (xs : List Int), (cI xs).all (·.one) = true
  | [] => rfl
  | x :: xs => by rw [cI_cons, List.all_cons, ones_cI xs]; rfl
theorem cI_inj {xs ys : List Int} (h : cI xs = cI ys) : xs = ys := by
  have : Function.Injective (AV.int .i64) := fun a b h => by cases h; rfl
  exact (List.map_inj_right (fun _ _ e => by cases e; rfl)).1 h
abbrev aE (x : Ed) : List AV := [.int .i64 x.1, .int .i64 x.2]
theorem cellsE_nil : cellsE [] = [] := rfl
theorem cellsE_cons (x : Ed) (l : List Ed) : cellsE (x :: l) = .int .i64 x.1 :: .int .i64 x.2 :: cellsE l := rfl
theorem cellsE_append : ∀ (xs ys : List Ed), cellsE (xs ++ ys) = cellsE xs ++ cellsE ys
  | [], ys => rfl
  | x :: l, ys => by simp [cellsE, cellsE_append l ys]
theorem closeds_cE : ∀ (xs : List Ed), AV.closeds (cellsE xs) = true
  | [] => rfl
  | x :: xs => by rw [cellsE_cons, closeds_cons, closeds_cons, closeds_cE xs]; rfl
theorem ones_cE : ∀ (xs : List Ed), (cellsE xs).all (·.one) = true
  | [] => rfl
  | x :: xs => by rw [cellsE_cons, List.all_cons, List.all_cons, ones_cE xs]; rfl
theorem cE_get (es : List Ed) : ∀ (i : Nat) (h : i < es.length), (cellsE es)[i * 2]? = some (.int .i64 es[i].1) ∧ (cellsE es)[i * 2 + 1]? = some (.int .i64 es[i].2) := by
  induction es with
  | nil => intro i h; simp at h
  | cons x l ih =>
    intro i h
    cases i with
    | zero => exact ⟨rfl, rfl⟩
    | succ i =>
      obtain ⟨h1, h2⟩ := ih i (by simpa using h)
      refine ⟨?_, ?_⟩
      · rw [show (i + 1) * 2 = i * 2 + 1 + 1 by omega]; simpa [cellsE] using h1
      · rw [show (i + 1) * 2 + 1 = i * 2 + 1 + 1 + 1 by omega]; simpa [cellsE] using h2
theorem cE_drop : ∀ (es : List Ed) (i : Nat), (cellsE es).drop (i * 2) = cellsE (es.drop i)
  | es, 0 => by simp
  | [], i + 1 => by simp [cellsE]
  | x :: l, i + 1 => by
    rw [show (i + 1) * 2 = i * 2 + 1 + 1 by omega]
    simpa [cellsE] using cE_drop l i
theorem cE_take : ∀ (es : List Ed) (i : Nat), (cellsE es).take (i * 2) = cellsE (es.take i)
  | es, 0 => by simp [cellsE]
  | [], i + 1 => by simp [cellsE]
  | x :: l, i + 1 => by
    rw [show (i + 1) * 2 = i * 2 + 1 + 1 by omega]
    simpa [cellsE] using cE_take l i
theorem cE_two {es : List Ed} {i : Nat} (h : i < es.length) : ((cellsE es).drop (i * 2)).take 2 = [.int .i64 es[i].1, .int .i64 es[i].2] := by
  rw [cE_drop, List.drop_eq_getElem_cons h]; rfl
theorem cE_inj : ∀ {xs ys : List Ed}, cellsE xs = cellsE ys → xs = ys
  | [], [], _ => rfl
  | [], y :: ys, h => by simp [cellsE] at h
  | x :: xs, [], h => by simp [cellsE] at h
  | x :: xs, y :: ys, h => by
    simp only [cellsE, List.cons.injEq, AV.int.injEq, true_and] at h
    obtain ⟨h1, h2, h3⟩ := h
    rw [cE_inj h3]
    congr 1
    exact Prod.ext h1 h2

/-! ### A row as a value -/
/-- What a row comes to: nil where it is empty and 'nl'. -/
def rv (nl : Bool) (n sz : Nat) (c : List AV) : AV := if nl = true ∧ n = 0 then .nils else .vs n sz c
abbrev vI (xs : List Int) : AV := .vs xs.length 1 (cI xs)
abbrev vE (es : List Ed) : AV := .vs es.length 2 (cellsE es)
abbrev rI (xs : List Int) : AV := rv true xs.length 1 (cI xs)
abbrev rE (es : List Ed) : AV := rv true es.length 2 (cellsE es)
/-- The value reads as this row of n elements of sz cells each. -/
def Is (v : AV) (sz n : Nat) (c : List AV) : Prop := c.length = n * sz ∧ AV.closeds c = true ∧ ((v = .nils ∧ n = 0) ∨ v = .vs n sz c)
abbrev IsI (v : AV) (xs : List Int) : Prop := Is v 1 xs.length (cI xs)
abbrev IsE (v : AV) (es : List Ed) : Prop := Is v 2 es.length (cellsE es)
theorem isI_nil : IsI .nils [] := ⟨rfl, rfl, .inl ⟨rfl, rfl⟩⟩
theorem isE_nil : IsE .nils [] := ⟨rfl, rfl, .inl ⟨rfl, rfl⟩⟩
theorem isI_v (xs : List Int) : IsI (vI xs) xs := ⟨by simp [cI], closeds_cI xs, .inr rfl⟩
theorem isE_v (es : List Ed) : IsE (vE es) es := ⟨cellsE_length es, closeds_cE es, .inr rfl⟩
theorem is_rv {nl : Bool} {n sz : Nat} {c : List AV} (hl : c.length = n * sz) (hc : AV.closeds c = true) : Is (rv nl n sz c) sz n c := by
  refine ⟨hl, hc, ?_⟩
  unfold rv
  split
  · rename_i h; exact .inl ⟨rfl, h.2⟩
  · exact .inr rfl
theorem isI_r (xs : List Int) : IsI (rI xs) xs := is_rv (by simp [cI]) (closeds_cI xs)
theorem isE_r (es : List Ed) : IsE (rE es) es := is_rv (cellsE_length es) (closeds_cE es)
variable {v : AV} {sz n : Nat} {c : List AV}
theorem Is.closed (h : Is v sz n c) : v.closed = true := by
  obtain ⟨_, h2, ⟨rfl, _⟩ | rfl⟩ := h
  · rfl
  · exact h2
theorem Is.one (h : Is v sz n c) : v.one = true := by obtain ⟨_, h2, ⟨rfl, _⟩ | rfl⟩ := h <;> rfl
theorem Is.cells (h : Is v sz n c) : v.cells = [v] := by obtain ⟨_, h2, ⟨rfl, _⟩ | rfl⟩ := h <;> rfl
theorem Is.part (h : Is v sz n c) : v.part = true := by obtain ⟨_, h2, ⟨rfl, _⟩ | rfl⟩ := h <;> rfl
theorem Is.len (h : Is v sz n c) (rd : Nat → Option Ob) : nstep .lenS [v] rd = some (.val (.int .i64 n)) := by
  obtain ⟨_, h2, ⟨rfl, rfl⟩ | rfl⟩ := h <;> rfl
theorem Is.src (h : Is v sz n c) (H : Heap) : srcCells H sz v = some (n, c) := by
  obtain ⟨h1, h2, ⟨rfl, rfl⟩ | rfl⟩ := h
  · simp at h1; subst h1; rfl
  · exact src_vs H n sz c
theorem Is.idx (h : Is v sz n c) (hz : 0 < sz) {i : Nat} (hi : i < n) (k : IntKind) (rd : Nat → Option Ob) : nstep (.idx sz) [v, .int k (i : Int)] rd = some (.val (.vp c (i * sz))) := by
  obtain ⟨h1, h2, ⟨rfl, rfl⟩ | rfl⟩ := h
  · omega
  · rw [n_idxV, if_pos ⟨rfl, hz, by omega, by omega⟩]; simp
/-- An element of a row of numbers. -/
theorem IsI.at {v : AV} {xs : List Int} (h : IsI v xs) {i : Nat} (hi : i < xs.length) : (∀ (k : IntKind) rd, nstep (.idx 1) [v, .int k (i : Int)] rd = some (.val (.vp (cI xs) i))) ∧ (cI xs)[i]? = some (.int .i64 xs[i]) :=
  ⟨fun k rd => by have := Is.idx h (by omega) hi k rd; rwa [Nat.mul_one] at this, cI_get hi⟩
theorem IsE.at {v : AV} {es : List Ed} (h : IsE v es) {i : Nat} (hi : i < es.length) : (∀ (k : IntKind) rd, nstep (.idx 2) [v, .int k (i : Int)] rd = some (.val (.vp (cellsE es) (i * 2)))) ∧ (cellsE es)[i * 2]? = some (.int .i64 es[i].1) ∧ (cellsE es)[i * 2 + 1]? = some (.int .i64 es[i].2) ∧
    i * 2 + 2 ≤ (cellsE es).length ∧ ((cellsE es).drop (i * 2)).take 2 = [.int .i64 es[i].1, .int .i64 es[i].2] :=
  ⟨fun k rd => Is.idx h (by omega) hi k rd, (cE_get es i hi).1, (cE_get es i hi).2, by rw [cellsE_length]; omega, cE_two hi⟩

/-! ### A row that is one's own -/
/-- From object P on. -/
def Own (nl : Bool) (P : Nat) (H : Heap) (v : AV) (sz n : Nat) (c : List AV) : Prop :=
  (n = 0 ∧ c = [] ∧ if nl = true then v = .nils else ∃ b g o, v = .sl b g o 0 sz 0 true) ∨ (0 < n ∧ ∃ b g ex, v = .sl b g 0 n sz n ex ∧ P ≤ b ∧ c.length = n * sz ∧ H[b]? = some (.cells g false c))
abbrev OwnI (nl : Bool) (P : Nat) (H : Heap) (v : AV) (xs : List Int) : Prop := Own nl P H v 1 xs.length (cI xs)
abbrev OwnE (nl : Bool) (P : Nat) (H : Heap) (v : AV) (es : List Ed) : Prop := Own nl P H v 2 es.length (cellsE es)
/-- The object that it lies in. -/
def blkOf : AV → Option Nat
  | .sl b _ _ n _ _ _ => if n = 0 then none else some b
  | _ => none
variable {nl : Bool} {P : Nat} {H H' : Heap}
theorem own_nil (P : Nat) (H : Heap) (sz : Nat) : Own true P H .nils sz 0 [] := .inl ⟨rfl, rfl, rfl⟩
theorem own_empty (P : Nat) (H : Heap) (sz b g o : Nat) : Own false P H (.sl b g o 0 sz 0 true) sz 0 [] := .inl ⟨rfl, rfl, b, g, o, rfl⟩
theorem ownI_empty (P : Nat) (H : Heap) (b g o : Nat) : OwnI false P H (.sl b g o 0 1 0 true) [] := own_empty P H 1 b g o
theorem ownE_empty (P : Nat) (H : Heap) (b g o : Nat) : OwnE false P H (.sl b g o 0 2 0 true) [] := own_empty P H 2 b g o
theorem own_new {b g : Nat} {ex : Bool} (hP : P ≤ b) (hl : c.length = n * sz) (hb : H[b]? = some (.cells g false c)) (he : n = 0 → ex = true) : Own false P H (.sl b g 0 n sz n ex) sz n c := by
  rcases Nat.eq_zero_or_pos n with h | h
  · subst h
    simp at hl
    exact .inl ⟨rfl, hl, b, g, 0, by rw [he rfl]⟩
  · exact .inr ⟨h, b, g, ex, rfl, hP, hl, hb⟩
theorem Own.cl (h : Own nl P H v sz n c) : c.length = n * sz := by
  rcases h with ⟨rfl, rfl, _⟩ | ⟨_, b, g, ex, _, _, h, _⟩
  · simp
  · exact h
theorem Own.one (h : Own nl P H v sz n c) : v.one = true := by
  rcases h with ⟨rfl, rfl, h⟩ | ⟨_, b, g, ex, rfl, _, h, _⟩
  · cases nl
    · obtain ⟨b, g, o, rfl⟩ := h; rfl
    · have : v = .nils := h
      subst this; rfl
  · rfl
theorem Own.cells (h : Own nl P H v sz n c) : v.cells = [v] := by
  rcases h with ⟨rfl, rfl, h⟩ | ⟨_, b, g, ex, rfl, _, h, _⟩
  · cases nl
    · obtain ⟨b, g, o, rfl⟩ := h; rfl
    · have : v = .nils := h
      subst this; rfl
  · rfl
theorem Own.part (h : Own nl P H v sz n c) : v.part = true := by
  rcases h with ⟨rfl, rfl, h⟩ | ⟨_, b, g, ex, rfl, _, h, _⟩
  · cases nl
    · obtain ⟨b, g, o, rfl⟩ := h; rfl
    · have : v = .nils := h
      subst this; rfl
  · rfl
theorem Own.keep (h : Own nl P H v sz n c) (hk : ∀ b, b < H.length → blkOf v = some b → H'[b]? = H[b]?) : Own nl P H' v sz n c := by
  rcases h with ⟨rfl, rfl, h⟩ | ⟨h0, b, g, ex, rfl, h1, h2, hb⟩
  · exact .inl ⟨rfl, rfl, h⟩
  · exact .inr ⟨h0, b, g, ex, rfl, h1, h2, by rw [hk b (List.getElem?_eq_some_iff.1 hb).1 (by simp [blkOf]; omega)]; exact hb⟩
theorem Own.more (h : Own nl P H v sz n c) (J : Heap) : Own nl P (H ++ J) v sz n c := h.keep fun b hb _ => List.getElem?_append_left hb
theorem Own.blk (h : Own nl P H v sz n c) {b : Nat} (hb : blkOf v = some b) : P ≤ b ∧ b < H.length := by
  rcases h with ⟨rfl, rfl, h⟩ | ⟨h0, b', g, ex, rfl, h1, h2, hb'⟩
  · cases nl
    · obtain ⟨b, g, o, rfl⟩ := h; simp [blkOf] at hb
    · have : v = .nils := h
      subst this; simp [blkOf] at hb
  · simp only [blkOf] at hb
    rw [if_neg (by omega)] at hb
    cases hb; exact ⟨h1, (List.getElem?_eq_some_iff.1 hb').1⟩
theorem Own.weak (h : Own nl P H v sz n c) {P' : Nat} (hP : P' ≤ P) : Own nl P' H v sz n c := by
  rcases h with h | ⟨h0, b, g, ex, rfl, h1, h2, hb⟩
  · exact .inl h
  · exact .inr ⟨h0, b, g, ex, rfl, by omega, h2, hb⟩
theorem Own.len (h : Own nl P H v sz n c) (rd : Nat → Option Ob) : nstep .lenS [v] rd = some (.val (.int .i64 n)) := by
  rcases h with ⟨rfl, rfl, h⟩ | ⟨h0, b, g, ex, rfl, h1, h2, hb⟩
  · cases nl
    · obtain ⟨b, g, o, rfl⟩ := h; rfl
    · have : v = .nils := h
      subst this; rfl
  · rfl
theorem Own.src (h : Own nl P H v sz n c) : srcCells H sz v = some (n, c) := by
  rcases h with ⟨rfl, rfl, h⟩ | ⟨h0, b, g, ex, rfl, h1, h2, hb⟩
  · cases nl
    · obtain ⟨b, g, o, rfl⟩ := h; simp [srcCells]
    · have : v = .nils := h
      subst this; simp [srcCells]
  · have : ¬ n = 0 := by omega
    have e : c.take (n * sz) = c := by rw [← h2, List.take_length]
    simp [srcCells, this, rdSl, hb, h2, e]
/-- Where an element lies. -/
theorem Own.at (h : Own nl P H v sz n c) {i : Nat} (hi : i < n) : ∃ b g, (∀ (k : IntKind) rd, nstep (.idx sz) [v, .int k (i : Int)] rd = some (.val (.ptr b g (i * sz)))) ∧ H[b]? = some (.cells g false c) ∧ blkOf v = some b ∧ P ≤ b ∧
    (∀ c', c'.length = c.length → Own nl P (H.set b (.cells g false c')) v sz n c') := by
  rcases h with ⟨rfl, rfl, h⟩ | ⟨h0, b, g, ex, rfl, h1, h2, hb⟩
  · omega
  · refine ⟨b, g, fun k rd => ?_, hb, by simp only [blkOf]; rw [if_neg (by omega)], h1, fun c' hc' => .inr ⟨h0, b, g, ex, rfl, h1, by rw [hc', h2], List.getElem?_set_self (List.getElem?_eq_some_iff.1 hb).1⟩⟩
    rw [n_idx, if_pos ⟨by omega, by omega⟩]; simp
/-- Elements are appended. -/
theorem Own.app {bytes m : Nat} {u : AV} {xs : List AV} (h : Own nl P H v sz n c) (hsrc : srcCells H sz u = some (m, xs)) (hxl : xs.length = m * sz) (hone : xs.all (·.one) = true) (hP : P ≤ H.length) (hn : (n + m) * bytes ≤ 140737488355328 ∧ n + m ≤ 140737488355328) :
    ∃ v' H', xstep (.app sz bytes) [v, u] H = some (v', H') ∧ Own nl P H' v' sz (n + m) (c ++ xs) ∧ (∀ b, b < H.length → blkOf v ≠ some b → H'[b]? = H[b]?) ∧ H.length ≤ H'.length ∧ (∀ b, blkOf v' = some b → blkOf v = some b ∨ H.length ≤ b) := by
  have e0 : xstep (.app sz bytes) [v, u] H = appStep sz bytes v m xs H := by simp only [xstep, hsrc]
  rw [e0]
  unfold appStep
  simp only [hone, Bool.not_true, Bool.false_eq_true, if_false]
  by_cases hm : m = 0
  · subst hm
    simp at hxl
    subst hxl
    rcases h with ⟨rfl, rfl, h⟩ | ⟨h0, b, g, ex, rfl, h1, h2, hb⟩
    · cases nl
      · obtain ⟨b, g, o, rfl⟩ := h
        exact ⟨_, H, by simp, by simpa using own_empty P H sz b g o, fun _ _ _ => rfl, Nat.le_refl _, fun b hb => .inl hb⟩
      · have : v = .nils := h
        subst this
        exact ⟨.nils, H, by simp, by simpa using own_nil P H sz, fun _ _ _ => rfl, Nat.le_refl _, fun b hb => .inl hb⟩
    · exact ⟨_, H, by simp, .inr ⟨by omega, b, g, ex, by simp, h1, by simpa using h2, by simpa using hb⟩, fun _ _ _ => rfl, Nat.le_refl _, fun b hb => .inl hb⟩
  rcases h with ⟨rfl, rfl, h⟩ | ⟨h0, b, g, ex, rfl, h1, h2, hb⟩
  · simp only [Nat.zero_add] at hn ⊢
    have hown : ∀ nl, Own nl P (H ++ [.cells 0 false xs]) (.sl H.length 0 0 m sz m false) sz m ([] ++ xs) := fun nl => .inr ⟨by omega, H.length, 0, false, rfl, hP, by simpa using hxl, by simp⟩
    have hnew : ∀ b, blkOf (.sl H.length 0 0 m sz m false) = some b → H.length ≤ b := fun b hb => by
      simp only [blkOf] at hb
      rw [if_neg hm] at hb; cases hb; exact Nat.le_refl _
    cases nl
    · obtain ⟨b, g, o, rfl⟩ := h
      refine ⟨_, _, ?_, hown _, fun b hb _ => List.getElem?_append_left hb, by simp, fun b hb => .inr (hnew b hb)⟩
      have hm0 : ¬ (0 + m ≤ 0) := by omega
      simp [hm, hn]
    · have : v = .nils := h
      subst this
      refine ⟨_, _, ?_, hown _, fun b hb _ => List.getElem?_append_left hb, by simp, fun b hb => .inr (hnew b hb)⟩
      simp [hm, hn]
  · have e3 : ¬ n = 0 := by omega
    have hm0 : ¬ (n + m ≤ n) := by omega
    cases ex with
    | true =>
      have hrd : rdSl H b g 0 (n * sz) = some c := by
        have : c.take (n * sz) = c := by rw [← h2, List.take_length]
        simp [rdSl, hb, h2, this]
      refine ⟨.sl H.length 0 0 (n + m) sz (n + m) false, H ++ [.cells 0 false (c ++ xs)], ?_, .inr ⟨by omega, H.length, 0, false, rfl, hP, by simp [h2, hxl, Nat.add_mul], by simp⟩, fun b hb _ => List.getElem?_append_left hb, by simp, fun b hb => .inr ?_⟩
      · simp [hm, hn, e3, hrd, hm0]
      · simp only [blkOf] at hb
        rw [if_neg (by omega)] at hb; cases hb; exact Nat.le_refl _
    | false =>
      refine ⟨.sl b (g + 1) 0 (n + m) sz (n + m) false, H.set b (.cells (g + 1) false (c ++ xs)), ?_, .inr ⟨by omega, b, g + 1, false, rfl, h1, by simp [h2, hxl, Nat.add_mul], ?_⟩, fun b' hb' hne => List.getElem?_set_ne (fun e => hne ?_), by simp, fun b' hb' => .inl ?_⟩
      · have hz : 0 < n := h0
        simp [hm, hn, hb, h2, hz]
        omega
      · rw [List.getElem?_set_self (List.getElem?_eq_some_iff.1 hb).1]
      · simp only [blkOf]; rw [if_neg e3, e]
      · simp only [blkOf] at hb' ⊢
        rw [if_neg (by omega)] at hb'; rw [if_neg e3]; exact hb'
/-- One element is appended, out of a row of one that has just been made. -/
theorem Own.app1 {bytes : Nat} {x : List AV} (h : Own nl P H v sz n c) (hx : x.length = sz) (hone : x.all (·.one) = true) (hP : P ≤ H.length) (hn : (n + 1) * bytes ≤ 140737488355328 ∧ n + 1 ≤ 140737488355328) :
    ∃ v' H', xstep (.app sz bytes) [v, .sl H.length 0 0 1 sz 1 true] (H ++ [.cells 0 false x]) = some (v', H') ∧ Own nl P H' v' sz (n + 1) (c ++ x) ∧ (∀ b, b < H.length → blkOf v ≠ some b → H'[b]? = H[b]?) ∧ H.length + 1 ≤ H'.length ∧ (∀ b, blkOf v' = some b → blkOf v = some b ∨ H.length < b) := by
  obtain ⟨v', H', h1, h2, h3, h4, h5⟩ := Own.app (u := .sl H.length 0 0 1 sz 1 true) (m := 1) (xs := x) (bytes := bytes) (h.more [.cells 0 false x]) (by
    have : x.take sz = x := by rw [← hx, List.take_length]
    simp [srcCells, rdSl, hx, this]) (by simpa using hx) hone (by simp; omega) hn
  refine ⟨v', H', h1, h2, fun b hb hne => ?_, by simpa using h4, fun b hb => ?_⟩
  · rw [h3 b (by simp; omega) hne, List.getElem?_append_left hb]
  · rcases h5 b hb with h | h
    · exact .inl h
    · right; simp at h; omega
/-- As a value: an answer. -/
theorem Own.viewR (h : Own nl P H v sz n c) (hc : AV.closeds c = true) : viewR H v = some (rv nl n sz c) := by
  rcases h with ⟨rfl, rfl, h⟩ | ⟨h0, b, g, ex, rfl, h1, h2, hb⟩
  · cases nl
    · obtain ⟨b, g, o, rfl⟩ := h
      simp [Go.Ai.viewR_def, fuelV, reachV_sl0, frzH_nil, viewV_sl0, rv]
    · have : v = .nils := h
      subst this
      rw [viewR_closed rfl]; simp [rv]
  · have hn : ¬ n = 0 := by omega
    have hlt := (List.getElem?_eq_some_iff.1 hb).1
    rw [Go.Ai.viewR_def]
    rw [show fuelV = 10 + 2 from rfl, reachV_sl _ _ _ _ _ _ _ _ _ _ _ hb hn hc, frzH_cons _ _ _ _ hb, frzH_nil, viewV_sl (c := c) _ _ _ _ _ _ _ _ (List.getElem?_set_self hlt) hn (by omega) hc]
    simp [rv, hn, ← h2]
/-- As a value: an argument, among values. -/
theorem Own.viewA {pre post : List AV} (h : Own nl P H v sz n c) (hc : AV.closeds c = true) (h1 : AV.closeds pre = true) (h2 : AV.closeds post = true) :
    ∃ H', viewA H (pre ++ v :: post) = some (pre ++ rv nl n sz c :: post, H') ∧ H'.length = H.length ∧ (∀ b, blkOf v ≠ some b → H'[b]? = H[b]?) := by
  have hr : ∀ (l : List AV), AV.closeds l = true → reachL H 12 (l ++ v :: post) = reachV H 11 v := by
    intro l hl
    induction l with
    | nil => rw [List.nil_append, reachL_cons, reachL_closed _ h2, List.append_nil]
    | cons x l ih =>
      simp only [closeds_cons, Bool.and_eq_true] at hl
      rw [List.cons_append, reachL_cons, ih hl.2, reachV_closed _ hl.1, List.nil_append]
  have hv : ∀ (H' : Heap) (r : AV), viewV H' 11 v = some r → ∀ (l : List AV), AV.closeds l = true → viewL H' 12 (l ++ v :: post) = some (l ++ r :: post) := by
    intro H' r hr l hl
    induction l with
    | nil => rw [List.nil_append, viewL_cons, hr, viewL_closed _ h2]; rfl
    | cons x l ih =>
      simp only [closeds_cons, Bool.and_eq_true] at hl
      rw [List.cons_append, viewL_cons, ih hl.2, viewV_closed _ hl.1]; rfl
  rw [Go.Ai.viewA_def]
  rw [show fuelV = 12 from rfl, hr pre h1]
  rcases h with ⟨rfl, rfl, h⟩ | ⟨h0, b, g, ex, rfl, h3, h4, hb⟩
  · cases nl
    · obtain ⟨b, g, o, rfl⟩ := h
      refine ⟨H, ?_, rfl, fun _ _ => rfl⟩
      rw [show (11 : Nat) = 10 + 1 from rfl, reachV_sl0, frzH_nil, hv H _ (viewV_sl0 10 ..) pre h1]
      simp [rv]
    · have : v = .nils := h
      subst this
      refine ⟨H, ?_, rfl, fun _ _ => rfl⟩
      rw [show (11 : Nat) = 10 + 1 from rfl, reachV_closed _ rfl, frzH_nil, hv H _ (viewV_closed 10 rfl) pre h1]
      simp [rv]
  · have hn : ¬ n = 0 := by omega
    have hlt := (List.getElem?_eq_some_iff.1 hb).1
    refine ⟨H.set b (.cells g true c), ?_, by simp, fun b' hne => List.getElem?_set_ne (fun e => hne (by simp only [blkOf]; rw [if_neg hn, e]))⟩
    rw [show (11 : Nat) = 10 + 1 from rfl, reachV_sl _ _ _ _ _ _ _ _ _ _ _ hb hn hc, frzH_cons _ _ _ _ hb, frzH_nil, hv _ (.vs n sz c) (by
      rw [show (11 : Nat) = 9 + 2 from rfl, viewV_sl (c := c) _ _ _ _ _ _ _ _ (List.getElem?_set_self hlt) hn (by omega) hc]
      simp [← h4]) pre h1]
    simp [rv, hn]
/-- The same, within a struct. -/
theorem Own.viewAg {pre post q : List AV} (h : Own nl P H v sz n c) (hc : AV.closeds c = true) (h1 : AV.closeds pre = true) (h2 : AV.closeds post = true) (h3 : AV.closeds q = true) :
    ∃ H', Go.Ai.viewA H (.agg (pre ++ v :: post) :: q) = some (.agg (pre ++ rv nl n sz c :: post) :: q, H') ∧ H'.length = H.length ∧ (∀ b, blkOf v ≠ some b → H'[b]? = H[b]?) := by
  have hr : ∀ (l : List AV), AV.closeds l = true → reachL H 10 (l ++ v :: post) = reachV H 9 v := by
    intro l hl
    induction l with
    | nil => rw [List.nil_append, reachL_cons, reachL_closed _ h2, List.append_nil]
    | cons x l ih =>
      simp only [closeds_cons, Bool.and_eq_true] at hl
      rw [List.cons_append, reachL_cons, ih hl.2, reachV_closed _ hl.1, List.nil_append]
  have hv : ∀ (H' : Heap) (r : AV), viewV H' 9 v = some r → ∀ (l : List AV), AV.closeds l = true → viewL H' 10 (l ++ v :: post) = some (l ++ r :: post) := by
    intro H' r hr l hl
    induction l with
    | nil => rw [List.nil_append, viewL_cons, hr, viewL_closed _ h2]; rfl
    | cons x l ih =>
      simp only [closeds_cons, Bool.and_eq_true] at hl
      rw [List.cons_append, viewL_cons, ih hl.2, viewV_closed _ hl.1]; rfl
  rw [Go.Ai.viewA_def]
  rw [show fuelV = 12 from rfl, show (12 : Nat) = 11 + 1 from rfl, reachL_cons, show (11 : Nat) = 10 + 1 from rfl, reachV_agg, hr pre h1, reachL_closed _ h3, List.append_nil]
  have fin : ∀ (H' : Heap) (r : AV), viewV H' 9 v = some r → viewL H' (10 + 1 + 1) (AV.agg (pre ++ v :: post) :: q) = some (AV.agg (pre ++ r :: post) :: q) := by
    intro H' r hr
    rw [show (10 + 1 + 1 : Nat) = 10 + 2 from rfl, viewL_cons, show (10 + 1 : Nat) = 9 + 2 from rfl, viewV_agg, hv H' r hr pre h1, viewL_closed _ h3]; rfl
  rcases h with ⟨rfl, rfl, h⟩ | ⟨h0, b, g, ex, rfl, h5, h4, hb⟩
  · cases nl
    · obtain ⟨b, g, o, rfl⟩ := h
      refine ⟨H, ?_, rfl, fun _ _ => rfl⟩
      rw [show (9 : Nat) = 8 + 1 from rfl, reachV_sl0, frzH_nil, fin H _ (viewV_sl0 8 ..)]
      simp [rv]
    · have : v = .nils := h
      subst this
      refine ⟨H, ?_, rfl, fun _ _ => rfl⟩
      rw [show (9 : Nat) = 8 + 1 from rfl, reachV_closed _ rfl, frzH_nil, fin H _ (viewV_closed 8 rfl)]
      simp [rv]
  · have hn : ¬ n = 0 := by omega
    have hlt := (List.getElem?_eq_some_iff.1 hb).1
    refine ⟨H.set b (.cells g true c), ?_, by simp, fun b' hne => List.getElem?_set_ne (fun e => hne (by simp only [blkOf]; rw [if_neg hn, e]))⟩
    rw [show (9 : Nat) = 8 + 1 from rfl, reachV_sl _ _ _ _ _ _ _ _ _ _ _ hb hn hc, frzH_cons _ _ _ _ hb, frzH_nil, fin _ (.vs n sz c) (by
      rw [show (9 : Nat) = 7 + 2 from rfl, viewV_sl (c := c) _ _ _ _ _ _ _ _ (List.getElem?_set_self hlt) hn (by omega) hc]
      simp [← h4])]
    simp [rv, hn]
/-- A slice that has just been made, as the one argument. -/
def vaSl (H : Heap) (b g n sz cl : Nat) (ex : Bool) : Option Ob → Option (List AV × Heap)
  | some (.cells g' false c) => if g' = g ∧ AV.closeds c = true ∧ c.length = n * sz ∧ n ≠ 0 then some ([.vs n sz c], H.set b (.cells g true c)) else hid (viewA H [.sl b g 0 n sz cl ex]) ()
  | _ => hid (viewA H [.sl b g 0 n sz cl ex]) ()
theorem viewA_sl1 (H : Heap) (b g n sz cl : Nat) (ex : Bool) : viewA H [.sl b g 0 n sz cl ex] = vaSl H b g n sz cl ex (H[b]?) := by
  unfold vaSl
  split
  · rename_i g' c hb
    split
    · rename_i hc
      obtain ⟨rfl, h1, h2, h3⟩ := hc
      have hlt := (List.getElem?_eq_some_iff.1 hb).1
      rw [Go.Ai.viewA_def]
      rw [show fuelV = 10 + 2 from rfl, show (10 + 2 : Nat) = 11 + 1 from rfl, reachL_cons, reachL_nil, List.append_nil, show (11 : Nat) = 10 + 1 from rfl, reachV_sl _ _ _ _ _ _ _ _ _ _ _ hb h3 h1, frzH_cons _ _ _ _ hb, frzH_nil,
        show (10 + 1 + 1 : Nat) = 10 + 2 from rfl, viewL_cons, viewL_nil, show (10 + 1 : Nat) = 9 + 2 from rfl, viewV_sl (c := c) _ _ _ _ _ _ _ _ (List.getElem?_set_self hlt) h3 (by omega) h1]
      simp [← h2]
    · rfl
  · rfl
theorem vaSl_cells (H : Heap) (b g n sz cl : Nat) (ex : Bool) (g' : Nat) (c : List AV) : vaSl H b g n sz cl ex (some (.cells g' false c)) = if g' = g ∧ AV.closeds c = true ∧ c.length = n * sz ∧ n ≠ 0 then some ([.vs n sz c], H.set b (.cells g true c)) else hid (viewA H [.sl b g 0 n sz cl ex]) () := rfl
theorem setAt_one {c : List AV} {o : Nat} (x : AV) (h : o < c.length) : setAt c o [x] = c.set o x := by
  apply List.ext_getElem?
  intro i
  rw [setAt_get (by simp; omega), List.getElem?_set]
  by_cases e : o = i
  · subst e; simp [h]
  · rw [if_neg (by simp; omega), if_neg e]
theorem lt_of_get {H : Heap} {b : Nat} {x : Ob} (h : H[b]? = some x) : b < H.length := (List.getElem?_eq_some_iff.1 h).1
theorem OwnI.app1 {v : AV} {xs : List Int} (h : OwnI nl P H v xs) (x : Int) (hP : P ≤ H.length) (hn : xs.length < 1000000000000) :
    ∃ v' H', xstep (.app 1 8) [v, .sl H.length 0 0 1 1 1 true] (H ++ [.cells 0 false [.int .i64 x]]) = some (v', H') ∧ OwnI nl P H' v' (xs ++ [x]) ∧ (∀ b, b < P → H'[b]? = H[b]?) ∧ H.length + 1 ≤ H'.length ∧ (∀ b, b < H.length → blkOf v ≠ some b → H'[b]? = H[b]?) ∧ (∀ b, blkOf v' = some b → blkOf v = some b ∨ H.length < b) := by
  obtain ⟨v', H', h1, h2, h3, h4, h5⟩ := Own.app1 (bytes := 8) (x := [.int .i64 x]) h rfl rfl hP (by omega)
  exact ⟨v', H', h1, by simpa [OwnI, cI_append, cI] using h2, fun b hb => h3 b (by omega) (fun e => by have := (h.blk e).1; omega), h4, h3, h5⟩
theorem OwnE.app1 {v : AV} {es : List Ed} (h : OwnE nl P H v es) (x y : Int) (hP : P ≤ H.length) (hn : es.length < 1000000000000) :
    ∃ v' H', xstep (.app 2 16) [v, .sl H.length 0 0 1 2 1 true] (H ++ [.cells 0 false [.int .i64 x, .int .i64 y]]) = some (v', H') ∧ OwnE nl P H' v' (es ++ [(x, y)]) ∧ (∀ b, b < P → H'[b]? = H[b]?) ∧ H.length + 1 ≤ H'.length ∧ (∀ b, b < H.length → blkOf v ≠ some b → H'[b]? = H[b]?) ∧ (∀ b, blkOf v' = some b → blkOf v = some b ∨ H.length < b) := by
  obtain ⟨v', H', h1, h2, h3, h4, h5⟩ := Own.app1 (bytes := 16) (x := [.int .i64 x, .int .i64 y]) h rfl rfl hP (by omega)
  refine ⟨v', H', h1, ?_, fun b hb => h3 b (by omega) (fun e => by have := (h.blk e).1; omega), h4, h3, h5⟩
  rw [OwnE, cellsE_append]; simpa [cellsE] using h2
theorem OwnI.view {v : AV} {xs : List Int} (h : OwnI nl P H v xs) : Go.Ai.viewR H v = some (rv nl xs.length 1 (cI xs)) := Own.viewR h (closeds_cI xs)
theorem OwnE.view {v : AV} {xs : List Ed} (h : OwnE nl P H v xs) : Go.Ai.viewR H v = some (rv nl xs.length 2 (cellsE xs)) := Own.viewR h (closeds_cE xs)
theorem rv_false (n sz : Nat) (c : List AV) : rv false n sz c = .vs n sz c := by simp [rv]
theorem OwnI.viewA1 {v : AV} {xs : List Int} (h : OwnI nl P H v xs) : ∃ H', viewA H [v] = some ([rv nl xs.length 1 (cI xs)], H') ∧ H'.length = H.length ∧ (∀ b, blkOf v ≠ some b → H'[b]? = H[b]?) := Own.viewA (pre := []) (post := []) h (closeds_cI xs) rfl rfl
theorem OwnE.viewA1 {v : AV} {xs : List Ed} (h : OwnE nl P H v xs) : ∃ H', viewA H [v] = some ([rv nl xs.length 2 (cellsE xs)], H') ∧ H'.length = H.length ∧ (∀ b, blkOf v ≠ some b → H'[b]? = H[b]?) := Own.viewA (pre := []) (post := []) h (closeds_cE xs) rfl rfl
theorem eqS2 (x y : Ed) : eqScs [1, 1] [.int .i64 x.1, .int .i64 x.2] [.int .i64 y.1, .int .i64 y.2] = some (decide (x = y)) := by
  obtain ⟨a, b⟩ := x
  obtain ⟨c, d⟩ := y
  by_cases h1 : a = c <;> by_cases h2 : b = d <;> simp only [eqScs, eqSc] <;> simp [int_beq, h1, h2]
theorem part_bool (b : Bool) : AV.part (.bool b) = true := Eq.trans rfl rfl
theorem part_int (k : IntKind) (n : Int) : AV.part (.int k n) = true := Eq.trans rfl rfl
theorem part_str (s : ByteArray) : AV.part (.str s) = true := Eq.trans rfl rfl
theorem part_nilp  : AV.part (.nilp ) = true := Eq.trans rfl rfl
theorem part_ptr (b g o : Nat) : AV.part (.ptr b g o) = true := Eq.trans rfl rfl
theorem part_nils  : AV.part (.nils ) = true := Eq.trans rfl rfl
theorem part_sl (b g o n sz cl : Nat) (ex : Bool) : AV.part (.sl b g o n sz cl ex) = true := Eq.trans rfl rfl
theorem part_nilm  : AV.part (.nilm ) = true := Eq.trans rfl rfl
theorem part_mp (b : Nat) : AV.part (.mp b) = true := Eq.trans rfl rfl
theorem part_nilf  : AV.part (.nilf ) = true := Eq.trans rfl rfl
theorem part_fn (f : Fn) (x y : List AV) : AV.part (.fn f x y) = true := Eq.trans rfl rfl
theorem part_nili  : AV.part (.nili ) = true := Eq.trans rfl rfl
theorem part_iface (t : TypeId) (v : AV) : AV.part (.iface t v) = true := Eq.trans rfl rfl
theorem part_agg (xs : List AV) : AV.part (.agg xs) = true := Eq.trans rfl rfl
theorem part_vs (n sz : Nat) (xs : List AV) : AV.part (.vs n sz xs) = true := Eq.trans rfl rfl
theorem part_vp (xs : List AV) (o : Nat) : AV.part (.vp xs o) = true := Eq.trans rfl rfl
theorem gz {α : Type} (a : α) (l : List α) : (a :: l)[0]? = some a := Eq.trans rfl rfl
theorem set_last (H : Heap) (a b : Ob) : (H ++ [a]).set H.length b = H ++ [b] := by simp
theorem get_last (H : Heap) (a : Ob) : (H ++ [a])[H.length]? = some a := by simp
theorem get_more {H : Heap} {b : Nat} {x : Ob} (J : Heap) (h : H[b]? = some x) : (H ++ J)[b]? = some x := by rw [List.getElem?_append_left (lt_of_get h)]; exact h
theorem wrap_0 : IntKind.i64.wrap 0 = 0 := by decide
theorem wrap_1 : IntKind.i64.wrap 1 = 1 := by decide
theorem wrap_2 : IntKind.i64.wrap 2 = 2 := by decide
theorem wrap_m1 : IntKind.i64.wrap (-1) = -1 := by decide
theorem wrap1 {i n : Nat} (h : i < n) (hn : n < 4611686018427387904) : IntKind.i64.wrap ((i : Int) + 1) = ((i + 1 : Nat) : Int) := by rw [wrap_in (by omega) (by omega)]; omega
theorem minV_i (a b : Int) : minV (.int .i64 a) (.int .i64 b) = some (.int .i64 (min a b)) := by
  simp only [minV, if_true]; congr 2; simp only [Int.min_def]; split <;> split <;> omega
theorem maxV_i (a b : Int) : maxV (.int .i64 a) (.int .i64 b) = some (.int .i64 (max a b)) := by
  simp only [maxV, if_true]; congr 2; simp only [Int.max_def]; split <;> split <;> omega
end Go.Ai
/- Rows as values: what is read of them, and what is frozen then. -/
namespace Go.Ai
set_option linter.unusedVariables false
set_option linter.unusedSimpArgs false
/-- A slice that reads as this row, whoever may write it. -/
def Vw (nl : Bool) (H : Heap) (v : AV) (sz n : Nat) (c : List AV) : Prop :=
  (n = 0 ∧ c = [] ∧ if nl = true then v = .nils else ∃ b g o, v = .sl b g o 0 sz 0 true) ∨ (0 < n ∧ ∃ b g cl ex ro, v = .sl b g 0 n sz cl ex ∧ c.length = n * sz ∧ H[b]? = some (.cells g ro c))
variable {nl : Bool} {P : Nat} {H : Heap} {v : AV} {sz n : Nat} {c : List AV}
theorem Own.vw (h : Own nl P H v sz n c) : Vw nl H v sz n c := by
  rcases h with h | ⟨h0, b, g, ex, rfl, _, h1, h2⟩
  · exact .inl h
  · exact .inr ⟨h0, b, g, n, ex, false, rfl, h1, h2⟩
/-- The memory, this row frozen. -/
def frzOf (H : Heap) (v : AV) : Heap := match blkOf v with
  | none => H
  | some b => frzH [b] H
theorem frzOf_len (H : Heap) (v : AV) : (frzOf H v).length = H.length := by
  unfold frzOf
  split
  · rfl
  · exact frzH_len _ _
theorem frzOf_get (H : Heap) (v : AV) {b : Nat} (hb : blkOf v ≠ some b) : (frzOf H v)[b]? = H[b]? := by
  unfold frzOf
  split
  · rfl
  · rename_i b' he
    simp only [frzH]
    split
    · exact List.getElem?_set_ne (fun e => hb (by rw [he, e]))
    · rfl
theorem Vw.reach (h : Vw nl H v sz n c) (hc : AV.closeds c = true) (k : Nat) : reachV H (k + 1) v = (blkOf v).toList := by
  rcases h with ⟨rfl, rfl, h⟩ | ⟨h0, b, g, cl, ex, ro, rfl, h1, h2⟩
  · cases nl
    · obtain ⟨b, g, o, rfl⟩ := h
      rw [reachV_sl0]; simp [blkOf]
    · have : v = .nils := h
      subst this
      rw [reachV_closed _ rfl]; rfl
  · rw [reachV_sl _ _ _ _ _ _ _ _ _ _ _ h2 (by omega) hc]
    simp only [blkOf]; rw [if_neg (by omega)]; rfl
theorem frzH_toList (H : Heap) (v : AV) : frzH (blkOf v).toList H = frzOf H v := by
  unfold frzOf
  cases blkOf v <;> rfl
theorem Vw.frz (h : Vw nl H v sz n c) : Vw nl (frzOf H v) v sz n c ∧ frzOf (frzOf H v) v = frzOf H v ∧ ∀ b g o cl ex, v = .sl b g o n sz cl ex → 0 < n → (frzOf H v)[b]? = some (.cells g true c) := by
  rcases h with h | ⟨h0, b, g, cl, ex, ro, rfl, h1, h2⟩
  · obtain ⟨rfl, rfl, h⟩ := h
    refine ⟨.inl ⟨rfl, rfl, h⟩, ?_, fun _ _ _ _ _ _ h => by omega⟩
    have : blkOf v = none := by
      cases nl
      · obtain ⟨b, g, o, rfl⟩ := h; simp [blkOf]
      · have : v = .nils := h
        subst this; rfl
    unfold frzOf; rw [this]
  · have hb : blkOf (.sl b g 0 n sz cl ex) = some b := by simp only [blkOf]; rw [if_neg (by omega)]
    have hf : (frzOf H (.sl b g 0 n sz cl ex))[b]? = some (.cells g true c) := by
      unfold frzOf
      rw [hb]
      cases ro
      · simp only [frzH_cons _ _ _ _ h2, frzH_nil]; exact List.getElem?_set_self (lt_of_get h2)
      · simp only [frzH_ro _ _ _ _ h2, frzH_nil]; exact h2
    refine ⟨.inr ⟨h0, b, g, cl, ex, true, rfl, h1, hf⟩, ?_, fun b' g' o' cl' ex' e _ => by cases e; exact hf⟩
    have e : ∀ K : Heap, frzOf K (.sl b g 0 n sz cl ex) = frzH [b] K := by intro K; unfold frzOf; rw [hb]
    rw [e (frzOf H _), frzH_ro _ _ _ _ hf, frzH_nil]
theorem Vw.seen (h : Vw nl H v sz n c) (hc : AV.closeds c = true) (k : Nat) : viewV (frzOf H v) (k + 2) v = some (rv nl n sz c) := by
  obtain ⟨_, _, hf⟩ := h.frz
  rcases h with ⟨rfl, rfl, h⟩ | ⟨h0, b, g, cl, ex, ro, rfl, h1, h2⟩
  · cases nl
    · obtain ⟨b, g, o, rfl⟩ := h
      rw [viewV_sl0]; simp [rv]
    · have : v = .nils := h
      subst this
      rw [viewV_closed _ rfl]; simp [rv]
  · have hb := hf b g 0 cl ex rfl h0
    rw [viewV_sl (c := c) _ _ _ _ _ _ _ _ hb (by omega) (by omega) hc]
    simp [rv, show ¬ n = 0 by omega, ← h1]
theorem reachL_mid {x : AV} {post : List AV} (h2 : AV.closeds post = true) (k : Nat) : ∀ (l : List AV), AV.closeds l = true → reachL H (k + 2) (l ++ x :: post) = reachV H (k + 1) x
  | [], _ => by rw [List.nil_append, reachL_cons, reachL_closed _ h2, List.append_nil]
  | y :: l, hl => by
    simp only [closeds_cons, Bool.and_eq_true] at hl
    rw [List.cons_append, reachL_cons, reachL_mid h2 k l hl.2, reachV_closed _ hl.1, List.nil_append]
theorem viewL_mid {x r : AV} {post : List AV} (h2 : AV.closeds post = true) (k : Nat) (hr : viewV H (k + 1) x = some r) : ∀ (l : List AV), AV.closeds l = true → viewL H (k + 2) (l ++ x :: post) = some (l ++ r :: post)
  | [], _ => by rw [List.nil_append, viewL_cons, hr, viewL_closed _ h2]; rfl
  | y :: l, hl => by
    simp only [closeds_cons, Bool.and_eq_true] at hl
    rw [List.cons_append, viewL_cons, viewL_mid h2 k hr l hl.2, viewV_closed _ hl.1]; rfl
/-- As an argument. -/
theorem Vw.va (h : Vw nl H v sz n c) (hc : AV.closeds c = true) (pre post : List AV) (h1 : AV.closeds pre = true) (h2 : AV.closeds post = true) : viewA H (pre ++ v :: post) = some (pre ++ rv nl n sz c :: post, frzOf H v) := by
  rw [viewA_def]
  rw [show fuelV = 10 + 2 from rfl, reachL_mid h2 10 pre h1, h.reach hc, frzH_toList, viewL_mid h2 10 (h.seen hc 9) pre h1]
  rfl
/-- As a part of a struct that is an argument. -/
theorem Vw.vag (h : Vw nl H v sz n c) (hc : AV.closeds c = true) (pre post p q : List AV) (h1 : AV.closeds pre = true) (h2 : AV.closeds post = true) (h3 : AV.closeds p = true) (h4 : AV.closeds q = true) :
    viewA H (p ++ .agg (pre ++ v :: post) :: q) = some (p ++ .agg (pre ++ rv nl n sz c :: post) :: q, frzOf H v) := by
  rw [viewA_def]
  rw [show fuelV = 10 + 2 from rfl, reachL_mid h4 10 p h3, reachV_agg, show (10 : Nat) = 8 + 2 from rfl, reachL_mid h2 8 pre h1, h.reach hc, frzH_toList]
  rw [viewL_mid (r := .agg (pre ++ rv nl n sz c :: post)) h4 (8 + 2) (by rw [show (8 + 2 + 1 : Nat) = 9 + 2 from rfl, viewV_agg, show (9 + 1 : Nat) = 8 + 2 from rfl, viewL_mid h2 8 (h.seen hc 7) pre h1]; rfl) p h3]
  rfl
/-- As an answer. -/
theorem Vw.vr (h : Vw nl H v sz n c) (hc : AV.closeds c = true) : viewR H v = some (rv nl n sz c) := by
  rw [viewR_def]
  rw [show fuelV = 11 + 1 from rfl, h.reach hc, frzH_toList, show (11 + 1 : Nat) = 10 + 2 from rfl, h.seen hc]
/-- A graph as an argument. -/
theorem Vw.g1 (h : Vw nl H v sz n c) (hc : AV.closeds c = true) (k : Int) : viewA H [.agg [.int .i64 k, v]] = some ([.agg [.int .i64 k, rv nl n sz c]], frzOf H v) := h.vag hc [.int .i64 k] [] [] [] rfl rfl rfl rfl
theorem Vw.g2 (h : Vw nl H v sz n c) (hc : AV.closeds c = true) (k : Int) (x : AV) (hx : x.closed = true) : viewA H [.agg [.int .i64 k, v], x] = some ([.agg [.int .i64 k, rv nl n sz c], x], frzOf H v) := h.vag hc [.int .i64 k] [] [] [x] rfl rfl rfl (by rw [closeds_cons, hx]; rfl)
theorem Vw.g3 (h : Vw nl H v sz n c) (hc : AV.closeds c = true) (k : Int) (x y : AV) (hx : x.closed = true) (hy : y.closed = true) : viewA H [.agg [.int .i64 k, v], x, y] = some ([.agg [.int .i64 k, rv nl n sz c], x, y], frzOf H v) := h.vag hc [.int .i64 k] [] [] [x, y] rfl rfl rfl (by rw [closeds_cons, closeds_cons, hx, hy]; rfl)
theorem Vw.l1 (h : Vw nl H v sz n c) (hc : AV.closeds c = true) : viewA H [v] = some ([rv nl n sz c], frzOf H v) := h.va hc [] [] rfl rfl
theorem Vw.l2 (h : Vw nl H v sz n c) (hc : AV.closeds c = true) (x : AV) (hx : x.closed = true) : viewA H [v, x] = some ([rv nl n sz c, x], frzOf H v) := h.va hc [] [x] rfl (by rw [closeds_cons, hx]; rfl)
theorem Vw.r2 (h : Vw nl H v sz n c) (hc : AV.closeds c = true) (x : AV) (hx : x.closed = true) : viewA H [x, v] = some ([x, rv nl n sz c], frzOf H v) := h.va hc [x] [] (by rw [closeds_cons, hx]; rfl) rfl
theorem Vw.one (h : Vw nl H v sz n c) : v.one = true := by
  rcases h with ⟨rfl, rfl, h⟩ | ⟨h0, b, g, cl, ex, ro, rfl, _⟩
  · cases nl
    · obtain ⟨b, g, o, rfl⟩ := h; rfl
    · have : v = .nils := h
      subst this; rfl
  · rfl
theorem Vw.cells (h : Vw nl H v sz n c) : v.cells = [v] := by
  rcases h with ⟨rfl, rfl, h⟩ | ⟨h0, b, g, cl, ex, ro, rfl, _⟩
  · cases nl
    · obtain ⟨b, g, o, rfl⟩ := h; rfl
    · have : v = .nils := h
      subst this; rfl
  · rfl
theorem Vw.len (h : Vw nl H v sz n c) (rd : Nat → Option Ob) : nstep .lenS [v] rd = some (.val (.int .i64 n)) := by
  rcases h with ⟨rfl, rfl, h⟩ | ⟨h0, b, g, cl, ex, ro, rfl, _⟩
  · cases nl
    · obtain ⟨b, g, o, rfl⟩ := h; rfl
    · have : v = .nils := h
      subst this; rfl
  · rfl
theorem Vw.keep {H' : Heap} (h : Vw nl H v sz n c) (hk : ∀ b, blkOf v = some b → H'[b]? = H[b]?) : Vw nl H' v sz n c := by
  rcases h with h | ⟨h0, b, g, cl, ex, ro, rfl, h1, h2⟩
  · exact .inl h
  · exact .inr ⟨h0, b, g, cl, ex, ro, rfl, h1, by rw [hk b (by simp only [blkOf]; rw [if_neg (by omega)])]; exact h2⟩
/-- Where an element lies. -/
theorem Vw.at (h : Vw nl H v sz n c) {i : Nat} (hi : i < n) : ∃ b g ro, (∀ (k : IntKind) rd, nstep (.idx sz) [v, .int k (i : Int)] rd = some (.val (.ptr b g (i * sz)))) ∧ H[b]? = some (.cells g ro c) ∧ blkOf v = some b := by
  rcases h with ⟨rfl, rfl, h⟩ | ⟨h0, b, g, cl, ex, ro, rfl, h1, hb⟩
  · omega
  · refine ⟨b, g, ro, fun k rd => ?_, hb, by simp only [blkOf]; rw [if_neg (by omega)]⟩
    rw [n_idx, if_pos ⟨by omega, by omega⟩]; simp
end Go.Ai
