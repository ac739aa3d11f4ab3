/- A part of what the law leans on: the abstract machine, the contracts, the rows. -/
import Derived.Test.YtmekjhnlmoidpaaK5
/- Functions of the program (package carcanetref04) as code of the abstract machine: written by a program of this session out of the elaborated operations. -/
namespace Go.Ai.G
set_option maxRecDepth 100000
set_option linter.unusedVariables false
/-! 61: carcanet/carcanetref04.New: 0:n 1: 2:p 3:i 4: -/
def r61_0 (φ : Nat → Nat) : List AOper := [
  ⟨0, .N .mv, [.c (.nilp)], none, 0⟩]
def r61_1 (φ : Nat → Nat) : List AOper := [
  ⟨0, .N (.build [.nils] []), [], none, 0⟩,
  ⟨1, .N .box, [.l 0], none, 0⟩,
  ⟨2, .N .mv, [.l 0], none, 0⟩]
def r61_2 (φ : Nat → Nat) : List AOper := [
  ⟨0, .N .mv, [.c (.int .i64 0)], none, 0⟩]
def r61_3 (φ : Nat → Nat) : List AOper := [
  ⟨0, .N .mv, [.n 3], none, 0⟩,
  ⟨1, .N .mv, [.n 0], none, 0⟩,
  ⟨2, .N (.bin .lss), [.l 1, .l 0], none, 0⟩,
  ⟨3, .N .mv, [.l 0], none, 0⟩,
  ⟨4, .N .mv, [.n 3], some (.l 0, true), 0⟩,
  ⟨5, .N (.bin .lss), [.l 0, .c (.int .i64 1000)], some (.l 1, true), 0⟩,
  ⟨6, .N .pick, [.l 2, .l 0, .c (.bool false)], none, 0⟩]
def r61_4 (φ : Nat → Nat) : List AOper := [
  ⟨0, .N .mv, [.n 2], none, 0⟩,
  ⟨1, .N .mv, [.n 2], none, 0⟩,
  ⟨2, .N .nilc, [.l 0], none, 0⟩,
  ⟨3, .N (.fadd 0), [.l 0], none, 0⟩,
  ⟨4, .N .load1, [.l 0], none, 0⟩,
  ⟨5, .N .mv, [.n 3], none, 0⟩,
  ⟨6, .N (.bsl [.int .i64 0] 1 1 [(0, 1)]), [.l 0], none, 0⟩,
  ⟨7, .X (.app 1 8), [.l 2, .l 0], none, 0⟩,
  ⟨8, .N .nilc, [.l 7], none, 0⟩,
  ⟨9, .N (.fadd 0), [.l 0], none, 0⟩,
  ⟨10, .X (.store 1), [.l 0, .l 2], none, 0⟩]
def r61_5 (φ : Nat → Nat) : List AOper := [
  ⟨0, .N .mv, [.n 3], none, 0⟩,
  ⟨1, .N (.bin .add), [.l 0, .c (.int .i64 1)], none, 0⟩,
  ⟨2, .N .mv, [.l 0], none, 0⟩]
def l61_6 (φ : Nat → Nat) : ACode := .seq (.seq (.reg false (r61_3 φ) [(4, 0)]) (.cond (.n 4) (.skip) (.exit 0))) (.seq (.block 1 (.reg false (r61_4 φ) [])) (.reg false (r61_5 φ) [(3, 0)]))
def r61_7 (φ : Nat → Nat) : List AOper := [
  ⟨0, .N .mv, [.n 2], none, 0⟩,
  ⟨1, .N .mv, [.l 0], none, 0⟩]
def b61 (φ : Nat → Nat) : ACode := .seq (.reg false (r61_0 φ) [(1, 0)]) (.seq (.reg false (r61_1 φ) [(2, 0)]) (.seq (.seq (.reg false (r61_2 φ) [(3, 0)]) (.block 0 (.loop (l61_6 φ)))) (.seq (.reg false (r61_7 φ) [(1, 0)]) (.ret))))
def f61 (φ : Nat → Nat) : AFn := ⟨1, [0, 2, 3, 4, 13], 27, b61 φ, [.t 1]⟩
/-! 63: (*carcanet/carcanetref04.Part).Same: 0:p 1:a 2:b 3: -/
def r63_0 (φ : Nat → Nat) : List AOper := [
  ⟨0, .N .mv, [.c (.bool false)], none, 0⟩]
def r63_1 (φ : Nat → Nat) : List AOper := [
  ⟨0, .N .mv, [.n 0], none, 0⟩,
  ⟨1, .N .mv, [.n 1], none, 0⟩,
  ⟨2, .call (φ 82), [.l 1, .l 0], none, 3⟩,
  ⟨3, .N .mv, [.l 0], none, 7⟩,
  ⟨4, .N .mv, [.n 0], some (.l 0, true), 15⟩,
  ⟨5, .N .mv, [.n 2], some (.l 1, true), 15⟩,
  ⟨6, .call (φ 82), [.l 1, .l 0], some (.l 2, true), 63⟩,
  ⟨7, .N .pick, [.l 3, .l 0, .c (.bool false)], none, 127⟩,
  ⟨8, .N .mv, [.l 0], none, 255⟩,
  ⟨9, .N .mv, [.n 0], some (.l 0, true), 511⟩,
  ⟨10, .N .nilc, [.l 0], some (.l 1, true), 1023⟩,
  ⟨11, .N (.fadd 0), [.l 0], some (.l 2, true), 2047⟩,
  ⟨12, .N .load1, [.l 0], some (.l 3, true), 4095⟩,
  ⟨13, .N .mv, [.n 1], some (.l 4, true), 511⟩,
  ⟨14, .N (.idx 1), [.l 1, .l 0], some (.l 5, true), 16383⟩,
  ⟨15, .N .load1, [.l 0], some (.l 6, true), 32767⟩,
  ⟨16, .N .mv, [.n 0], some (.l 7, true), 511⟩,
  ⟨17, .N .nilc, [.l 0], some (.l 8, true), 66047⟩,
  ⟨18, .N (.fadd 0), [.l 0], some (.l 9, true), 197119⟩,
  ⟨19, .N .load1, [.l 0], some (.l 10, true), 459263⟩,
  ⟨20, .N .mv, [.n 2], some (.l 11, true), 511⟩,
  ⟨21, .N (.idx 1), [.l 1, .l 0], some (.l 12, true), 2032127⟩,
  ⟨22, .N .load1, [.l 0], some (.l 13, true), 4129279⟩,
  ⟨23, .N (.bin .eql), [.l 7, .l 0], some (.l 14, true), 8388607⟩,
  ⟨24, .N .pick, [.l 15, .l 0, .c (.bool false)], none, 16777215⟩,
  ⟨25, .N .mv, [.l 0], none, 33554431⟩]
def b63 (φ : Nat → Nat) : ACode := .seq (.reg false (r63_0 φ) [(3, 0)]) (.seq (.reg true (r63_1 φ) [(3, 0)]) (.ret))
def f63 (φ : Nat → Nat) : AFn := ⟨3, [0, 1, 2, 6], 32, b63 φ, [.t 3]⟩
/-! 65: (*carcanet/carcanetref04.Part).Join: 0:p 1:a 2:b 3: 4:x 5:y 6:i 7: 8: 9: -/
def r65_0 (φ : Nat → Nat) : List AOper := [
  ⟨0, .N .mv, [.c (.bool false)], none, 0⟩]
def r65_1 (φ : Nat → Nat) : List AOper := [
  ⟨0, .N .mv, [.n 0], none, 0⟩,
  ⟨1, .N .mv, [.n 1], none, 0⟩,
  ⟨2, .call (φ 82), [.l 1, .l 0], none, 3⟩,
  ⟨3, .N (.un .not), [.l 0], none, 7⟩,
  ⟨4, .N .mv, [.l 0], none, 15⟩,
  ⟨5, .N .mv, [.n 0], some (.l 0, false), 31⟩,
  ⟨6, .N .mv, [.n 2], some (.l 1, false), 31⟩,
  ⟨7, .call (φ 82), [.l 1, .l 0], some (.l 2, false), 127⟩,
  ⟨8, .N (.un .not), [.l 0], some (.l 3, false), 255⟩,
  ⟨9, .N .pick, [.l 4, .c (.bool true), .l 0], none, 511⟩,
  ⟨10, .N .mv, [.l 0], none, 1023⟩,
  ⟨11, .N .mv, [.n 0], some (.l 0, false), 2047⟩,
  ⟨12, .N .nilc, [.l 0], some (.l 1, false), 4095⟩,
  ⟨13, .N (.fadd 0), [.l 0], some (.l 2, false), 8191⟩,
  ⟨14, .N .load1, [.l 0], some (.l 3, false), 16383⟩,
  ⟨15, .N .mv, [.n 1], some (.l 4, false), 2047⟩,
  ⟨16, .N (.idx 1), [.l 1, .l 0], some (.l 5, false), 65535⟩,
  ⟨17, .N .load1, [.l 0], some (.l 6, false), 131071⟩,
  ⟨18, .N .mv, [.n 0], some (.l 7, false), 2047⟩,
  ⟨19, .N .nilc, [.l 0], some (.l 8, false), 264191⟩,
  ⟨20, .N (.fadd 0), [.l 0], some (.l 9, false), 788479⟩,
  ⟨21, .N .load1, [.l 0], some (.l 10, false), 1837055⟩,
  ⟨22, .N .mv, [.n 2], some (.l 11, false), 2047⟩,
  ⟨23, .N (.idx 1), [.l 1, .l 0], some (.l 12, false), 8128511⟩,
  ⟨24, .N .load1, [.l 0], some (.l 13, false), 16517119⟩,
  ⟨25, .N (.bin .eql), [.l 7, .l 0], some (.l 14, false), 33554431⟩,
  ⟨26, .N .pick, [.l 15, .c (.bool true), .l 0], none, 67108863⟩]
def r65_2 (φ : Nat → Nat) : List AOper := [
  ⟨0, .N .mv, [.c (.bool false)], none, 0⟩]
def r65_3 (φ : Nat → Nat) : List AOper := [
  ⟨0, .N .mv, [.n 0], none, 0⟩,
  ⟨1, .N .nilc, [.l 0], none, 1⟩,
  ⟨2, .N (.fadd 0), [.l 0], none, 3⟩,
  ⟨3, .N .load1, [.l 0], none, 7⟩,
  ⟨4, .N .mv, [.n 1], none, 0⟩,
  ⟨5, .N (.idx 1), [.l 1, .l 0], none, 31⟩,
  ⟨6, .N .load1, [.l 0], none, 63⟩,
  ⟨7, .N .mv, [.n 0], none, 0⟩,
  ⟨8, .N .nilc, [.l 0], none, 128⟩,
  ⟨9, .N (.fadd 0), [.l 0], none, 384⟩,
  ⟨10, .N .load1, [.l 0], none, 896⟩,
  ⟨11, .N .mv, [.n 2], none, 0⟩,
  ⟨12, .N (.idx 1), [.l 1, .l 0], none, 3968⟩,
  ⟨13, .N .load1, [.l 0], none, 8064⟩,
  ⟨14, .N .min, [.l 7, .l 0], none, 16383⟩,
  ⟨15, .N .mv, [.l 0], none, 32767⟩]
def r65_4 (φ : Nat → Nat) : List AOper := [
  ⟨0, .N .mv, [.n 0], none, 0⟩,
  ⟨1, .N .nilc, [.l 0], none, 1⟩,
  ⟨2, .N (.fadd 0), [.l 0], none, 3⟩,
  ⟨3, .N .load1, [.l 0], none, 7⟩,
  ⟨4, .N .mv, [.n 1], none, 0⟩,
  ⟨5, .N (.idx 1), [.l 1, .l 0], none, 31⟩,
  ⟨6, .N .load1, [.l 0], none, 63⟩,
  ⟨7, .N .mv, [.n 0], none, 0⟩,
  ⟨8, .N .nilc, [.l 0], none, 128⟩,
  ⟨9, .N (.fadd 0), [.l 0], none, 384⟩,
  ⟨10, .N .load1, [.l 0], none, 896⟩,
  ⟨11, .N .mv, [.n 2], none, 0⟩,
  ⟨12, .N (.idx 1), [.l 1, .l 0], none, 3968⟩,
  ⟨13, .N .load1, [.l 0], none, 8064⟩,
  ⟨14, .N .max, [.l 7, .l 0], none, 16383⟩,
  ⟨15, .N .mv, [.l 0], none, 32767⟩]
def r65_5 (φ : Nat → Nat) : List AOper := [
  ⟨0, .N .mv, [.c (.int .i64 0)], none, 0⟩]
def r65_6 (φ : Nat → Nat) : List AOper := [
  ⟨0, .N .mv, [.n 6], none, 0⟩,
  ⟨1, .N .mv, [.n 0], none, 0⟩,
  ⟨2, .N .nilc, [.l 0], none, 0⟩,
  ⟨3, .N (.fadd 0), [.l 0], none, 0⟩,
  ⟨4, .N .load1, [.l 0], none, 0⟩,
  ⟨5, .N .lenS, [.l 0], none, 0⟩,
  ⟨6, .N (.bin .lss), [.l 5, .l 0], none, 0⟩]
def r65_7 (φ : Nat → Nat) : List AOper := [
  ⟨0, .N .mv, [.n 0], none, 0⟩,
  ⟨1, .N .nilc, [.l 0], none, 0⟩,
  ⟨2, .N (.fadd 0), [.l 0], none, 0⟩,
  ⟨3, .N .load1, [.l 0], none, 0⟩,
  ⟨4, .N .mv, [.n 6], none, 0⟩,
  ⟨5, .N (.idx 1), [.l 1, .l 0], none, 0⟩,
  ⟨6, .N .load1, [.l 0], none, 0⟩,
  ⟨7, .N .mv, [.n 5], none, 0⟩,
  ⟨8, .N (.bin .eql), [.l 1, .l 0], none, 0⟩]
def r65_8 (φ : Nat → Nat) : List AOper := [
  ⟨0, .N .mv, [.n 0], none, 0⟩,
  ⟨1, .N .nilc, [.l 0], none, 0⟩,
  ⟨2, .N (.fadd 0), [.l 0], none, 0⟩,
  ⟨3, .N .load1, [.l 0], none, 0⟩,
  ⟨4, .N .mv, [.n 6], none, 0⟩,
  ⟨5, .N .mv, [.n 4], none, 0⟩,
  ⟨6, .N (.idx 1), [.l 2, .l 1], none, 0⟩,
  ⟨7, .X (.store 1), [.l 0, .l 1], none, 0⟩]
def r65_9 (φ : Nat → Nat) : List AOper := [
  ⟨0, .N .mv, [.n 6], none, 0⟩,
  ⟨1, .N (.bin .add), [.l 0, .c (.int .i64 1)], none, 0⟩,
  ⟨2, .N .mv, [.l 0], none, 0⟩]
def l65_10 (φ : Nat → Nat) : ACode := .seq (.seq (.reg false (r65_6 φ) [(8, 0)]) (.cond (.n 8) (.skip) (.exit 0))) (.seq (.block 1 (.seq (.reg false (r65_7 φ) [(9, 0)]) (.cond (.n 9) (.reg false (r65_8 φ) []) (.skip)))) (.reg false (r65_9 φ) [(6, 0)]))
def r65_11 (φ : Nat → Nat) : List AOper := [
  ⟨0, .N .mv, [.c (.bool true)], none, 0⟩]
def b65 (φ : Nat → Nat) : ACode := .seq (.reg false (r65_0 φ) [(3, 0)]) (.seq (.seq (.reg true (r65_1 φ) [(7, 0)]) (.cond (.n 7) (.seq (.reg false (r65_2 φ) [(3, 0)]) (.ret)) (.skip))) (.seq (.reg true (r65_3 φ) [(4, 0)]) (.seq (.reg true (r65_4 φ) [(5, 0)]) (.seq (.seq (.reg false (r65_5 φ) [(6, 0)]) (.block 0 (.loop (l65_10 φ)))) (.seq (.reg false (r65_11 φ) [(3, 0)]) (.ret))))))
def f65 (φ : Nat → Nat) : AFn := ⟨3, [0, 1, 2, 6, 7, 8, 9, 36, 73, 84], 92, b65 φ, [.t 3]⟩
/-! 67: (*carcanet/carcanetref04.Part).Count: 0:p 1: 2:n 3:i 4: 5: -/
def r67_0 (φ : Nat → Nat) : List AOper := [
  ⟨0, .N .mv, [.c (.int .i64 0)], none, 0⟩]
def r67_1 (φ : Nat → Nat) : List AOper := [
  ⟨0, .N .mv, [.c (.int .i64 0)], none, 0⟩]
def r67_2 (φ : Nat → Nat) : List AOper := [
  ⟨0, .N .mv, [.c (.int .i64 0)], none, 0⟩]
def r67_3 (φ : Nat → Nat) : List AOper := [
  ⟨0, .N .mv, [.n 3], none, 0⟩,
  ⟨1, .N .mv, [.n 0], none, 0⟩,
  ⟨2, .N .nilc, [.l 0], none, 0⟩,
  ⟨3, .N (.fadd 0), [.l 0], none, 0⟩,
  ⟨4, .N .load1, [.l 0], none, 0⟩,
  ⟨5, .N .lenS, [.l 0], none, 0⟩,
  ⟨6, .N (.bin .lss), [.l 5, .l 0], none, 0⟩]
def r67_4 (φ : Nat → Nat) : List AOper := [
  ⟨0, .N .mv, [.n 0], none, 0⟩,
  ⟨1, .N .nilc, [.l 0], none, 0⟩,
  ⟨2, .N (.fadd 0), [.l 0], none, 0⟩,
  ⟨3, .N .load1, [.l 0], none, 0⟩,
  ⟨4, .N .mv, [.n 3], none, 0⟩,
  ⟨5, .N (.idx 1), [.l 1, .l 0], none, 0⟩,
  ⟨6, .N .load1, [.l 0], none, 0⟩,
  ⟨7, .N .mv, [.n 3], none, 0⟩,
  ⟨8, .N (.bin .eql), [.l 1, .l 0], none, 0⟩]
def r67_5 (φ : Nat → Nat) : List AOper := [
  ⟨0, .N .mv, [.n 2], none, 0⟩,
  ⟨1, .N (.bin .add), [.l 0, .c (.int .i64 1)], none, 0⟩,
  ⟨2, .N .mv, [.l 0], none, 0⟩]
def r67_6 (φ : Nat → Nat) : List AOper := [
  ⟨0, .N .mv, [.n 3], none, 0⟩,
  ⟨1, .N (.bin .add), [.l 0, .c (.int .i64 1)], none, 0⟩,
  ⟨2, .N .mv, [.l 0], none, 0⟩]
def l67_7 (φ : Nat → Nat) : ACode := .seq (.seq (.reg false (r67_3 φ) [(4, 0)]) (.cond (.n 4) (.skip) (.exit 0))) (.seq (.block 1 (.seq (.reg false (r67_4 φ) [(5, 0)]) (.cond (.n 5) (.reg false (r67_5 φ) [(2, 0)]) (.skip)))) (.reg false (r67_6 φ) [(3, 0)]))
def r67_8 (φ : Nat → Nat) : List AOper := [
  ⟨0, .N .mv, [.n 2], none, 0⟩,
  ⟨1, .N .mv, [.l 0], none, 0⟩]
def b67 (φ : Nat → Nat) : ACode := .seq (.reg false (r67_0 φ) [(1, 0)]) (.seq (.reg false (r67_1 φ) [(2, 0)]) (.seq (.seq (.reg false (r67_2 φ) [(3, 0)]) (.block 0 (.loop (l67_7 φ)))) (.seq (.reg false (r67_8 φ) [(1, 0)]) (.ret))))
def f67 (φ : Nat → Nat) : AFn := ⟨1, [0, 2, 3, 4, 11, 22], 26, b67 φ, [.t 1]⟩
/-! 69: (*carcanet/carcanetref04.Part).Classes: 0:p 1: 2:out 3:i 4:l 5:k 6: 7: 8: 9: -/
def r69_0 (φ : Nat → Nat) : List AOper := [
  ⟨0, .N .mv, [.c (.nils)], none, 0⟩]
def r69_1 (φ : Nat → Nat) : List AOper := [
  ⟨0, .N (.bsl [.nils] 0 1 []), [], none, 0⟩,
  ⟨1, .N .mv, [.l 0], none, 0⟩]
def r69_2 (φ : Nat → Nat) : List AOper := [
  ⟨0, .N .mv, [.c (.int .i64 0)], none, 0⟩]
def r69_3 (φ : Nat → Nat) : List AOper := [
  ⟨0, .N .mv, [.n 3], none, 0⟩,
  ⟨1, .N .mv, [.n 0], none, 0⟩,
  ⟨2, .N .nilc, [.l 0], none, 0⟩,
  ⟨3, .N (.fadd 0), [.l 0], none, 0⟩,
  ⟨4, .N .load1, [.l 0], none, 0⟩,
  ⟨5, .N .lenS, [.l 0], none, 0⟩,
  ⟨6, .N (.bin .lss), [.l 5, .l 0], none, 0⟩]
def r69_4 (φ : Nat → Nat) : List AOper := [
  ⟨0, .N .mv, [.n 0], none, 0⟩,
  ⟨1, .N .nilc, [.l 0], none, 0⟩,
  ⟨2, .N (.fadd 0), [.l 0], none, 0⟩,
  ⟨3, .N .load1, [.l 0], none, 0⟩,
  ⟨4, .N .mv, [.n 3], none, 0⟩,
  ⟨5, .N (.idx 1), [.l 1, .l 0], none, 0⟩,
  ⟨6, .N .load1, [.l 0], none, 0⟩,
  ⟨7, .N .mv, [.n 3], none, 0⟩,
  ⟨8, .N (.bin .neq), [.l 1, .l 0], none, 0⟩]
def r69_5 (φ : Nat → Nat) : List AOper := [
  ⟨0, .N (.bsl [.int .i64 0] 0 1 []), [], none, 0⟩,
  ⟨1, .N .mv, [.l 0], none, 0⟩]
def r69_6 (φ : Nat → Nat) : List AOper := [
  ⟨0, .N .mv, [.n 3], none, 0⟩,
  ⟨1, .N .mv, [.l 0], none, 0⟩]
def r69_7 (φ : Nat → Nat) : List AOper := [
  ⟨0, .N .mv, [.n 5], none, 0⟩,
  ⟨1, .N .mv, [.n 0], none, 0⟩,
  ⟨2, .N .nilc, [.l 0], none, 0⟩,
  ⟨3, .N (.fadd 0), [.l 0], none, 0⟩,
  ⟨4, .N .load1, [.l 0], none, 0⟩,
  ⟨5, .N .lenS, [.l 0], none, 0⟩,
  ⟨6, .N (.bin .lss), [.l 5, .l 0], none, 0⟩]
def r69_8 (φ : Nat → Nat) : List AOper := [
  ⟨0, .N .mv, [.n 0], none, 0⟩,
  ⟨1, .N .nilc, [.l 0], none, 0⟩,
  ⟨2, .N (.fadd 0), [.l 0], none, 0⟩,
  ⟨3, .N .load1, [.l 0], none, 0⟩,
  ⟨4, .N .mv, [.n 5], none, 0⟩,
  ⟨5, .N (.idx 1), [.l 1, .l 0], none, 0⟩,
  ⟨6, .N .load1, [.l 0], none, 0⟩,
  ⟨7, .N .mv, [.n 3], none, 0⟩,
  ⟨8, .N (.bin .eql), [.l 1, .l 0], none, 0⟩]
def r69_9 (φ : Nat → Nat) : List AOper := [
  ⟨0, .N .mv, [.n 4], none, 0⟩,
  ⟨1, .N .mv, [.n 5], none, 0⟩,
  ⟨2, .N (.bsl [.int .i64 0] 1 1 [(0, 1)]), [.l 0], none, 0⟩,
  ⟨3, .X (.app 1 8), [.l 2, .l 0], none, 0⟩,
  ⟨4, .N .mv, [.l 0], none, 0⟩]
def r69_10 (φ : Nat → Nat) : List AOper := [
  ⟨0, .N .mv, [.n 5], none, 0⟩,
  ⟨1, .N (.bin .add), [.l 0, .c (.int .i64 1)], none, 0⟩,
  ⟨2, .N .mv, [.l 0], none, 0⟩]
def l69_11 (φ : Nat → Nat) : ACode := .seq (.seq (.reg false (r69_7 φ) [(8, 0)]) (.cond (.n 8) (.skip) (.exit 2))) (.seq (.block 3 (.seq (.reg false (r69_8 φ) [(9, 0)]) (.cond (.n 9) (.reg false (r69_9 φ) [(4, 0)]) (.skip)))) (.reg false (r69_10 φ) [(5, 0)]))
def r69_12 (φ : Nat → Nat) : List AOper := [
  ⟨0, .N .mv, [.n 2], none, 0⟩,
  ⟨1, .N .mv, [.n 4], none, 0⟩,
  ⟨2, .N (.bsl [.nils] 1 1 [(0, 1)]), [.l 0], none, 0⟩,
  ⟨3, .X (.app 1 24), [.l 2, .l 0], none, 0⟩,
  ⟨4, .N .mv, [.l 0], none, 0⟩]
def r69_13 (φ : Nat → Nat) : List AOper := [
  ⟨0, .N .mv, [.n 3], none, 0⟩,
  ⟨1, .N (.bin .add), [.l 0, .c (.int .i64 1)], none, 0⟩,
  ⟨2, .N .mv, [.l 0], none, 0⟩]
def l69_14 (φ : Nat → Nat) : ACode := .seq (.seq (.reg false (r69_3 φ) [(6, 0)]) (.cond (.n 6) (.skip) (.exit 0))) (.seq (.block 1 (.seq (.seq (.reg false (r69_4 φ) [(7, 0)]) (.cond (.n 7) (.exit 1) (.skip))) (.seq (.reg false (r69_5 φ) [(4, 0)]) (.seq (.seq (.reg false (r69_6 φ) [(5, 0)]) (.block 2 (.loop (l69_11 φ)))) (.reg false (r69_12 φ) [(2, 0)]))))) (.reg false (r69_13 φ) [(3, 0)]))
def r69_15 (φ : Nat → Nat) : List AOper := [
  ⟨0, .N .mv, [.n 2], none, 0⟩,
  ⟨1, .N .mv, [.l 0], none, 0⟩]
def b69 (φ : Nat → Nat) : ACode := .seq (.reg false (r69_0 φ) [(1, 0)]) (.seq (.reg false (r69_1 φ) [(2, 0)]) (.seq (.seq (.reg false (r69_2 φ) [(3, 0)]) (.block 0 (.loop (l69_14 φ)))) (.seq (.reg false (r69_15 φ) [(1, 0)]) (.ret))))
def f69 (φ : Nat → Nat) : AFn := ⟨1, [0, 2, 3, 4, 5, 6, 14, 25, 34, 45], 55, b69 φ, [.t 1]⟩
/-! 73: carcanet/carcanetref04.Of: 0:g 1:g 2: 3:out 4:seen 5:v 6:l 7:i 8:near 9:k 10: 11: 12: 13: 14: 15: -/
def r73_0 (φ : Nat → Nat) : List AOper := [
  ⟨0, .N .box, [.n 0], none, 0⟩,
  ⟨1, .N .mv, [.c (.nils)], none, 0⟩]
def r73_1 (φ : Nat → Nat) : List AOper := [
  ⟨0, .N (.bsl [.nils] 0 1 []), [], none, 0⟩,
  ⟨1, .N .mv, [.l 0], none, 0⟩]
def r73_2 (φ : Nat → Nat) : List AOper := [
  ⟨0, .N (.loadN 2), [.n 1], none, 0⟩,
  ⟨1, .calli true (φ 6), [.l 0], none, 0⟩,
  ⟨2, .N (.un .not), [.l 0], none, 0⟩]
def r73_3 (φ : Nat → Nat) : List AOper := [
  ⟨0, .N .mv, [.n 3], none, 0⟩,
  ⟨1, .N .mv, [.l 0], none, 0⟩]
def r73_4 (φ : Nat → Nat) : List AOper := [
  ⟨0, .N (.fadd 0), [.n 1], none, 0⟩,
  ⟨1, .N .load1, [.l 0], none, 0⟩,
  ⟨2, .N (.mksl [.bool false] 1 1), [.l 0, .l 0], none, 0⟩,
  ⟨3, .N .mv, [.l 0], none, 0⟩]
def r73_5 (φ : Nat → Nat) : List AOper := [
  ⟨0, .N .mv, [.c (.int .i64 0)], none, 0⟩]
def r73_6 (φ : Nat → Nat) : List AOper := [
  ⟨0, .N .mv, [.n 5], none, 0⟩,
  ⟨1, .N (.fadd 0), [.n 1], none, 0⟩,
  ⟨2, .N .load1, [.l 0], none, 0⟩,
  ⟨3, .N (.bin .lss), [.l 2, .l 0], none, 0⟩]
def r73_7 (φ : Nat → Nat) : List AOper := [
  ⟨0, .N .mv, [.n 4], none, 0⟩,
  ⟨1, .N .mv, [.n 5], none, 0⟩,
  ⟨2, .N (.idx 1), [.l 1, .l 0], none, 0⟩,
  ⟨3, .N .load1, [.l 0], none, 0⟩]
def r73_8 (φ : Nat → Nat) : List AOper := [
  ⟨0, .N .mv, [.n 5], none, 0⟩,
  ⟨1, .N (.bsl [.int .i64 0] 1 1 [(0, 1)]), [.l 0], none, 0⟩,
  ⟨2, .N .mv, [.l 0], none, 0⟩]
def r73_9 (φ : Nat → Nat) : List AOper := [
  ⟨0, .N .mv, [.n 4], none, 0⟩,
  ⟨1, .N .mv, [.n 5], none, 0⟩,
  ⟨2, .N (.idx 1), [.l 1, .l 0], none, 0⟩,
  ⟨3, .X (.store 1), [.l 0, .c (.bool true)], none, 0⟩]
def r73_10 (φ : Nat → Nat) : List AOper := [
  ⟨0, .N .mv, [.c (.int .i64 0)], none, 0⟩]
def r73_11 (φ : Nat → Nat) : List AOper := [
  ⟨0, .N .mv, [.n 7], none, 0⟩,
  ⟨1, .N .mv, [.n 6], none, 0⟩,
  ⟨2, .N .lenS, [.l 0], none, 0⟩,
  ⟨3, .N (.bin .lss), [.l 2, .l 0], none, 0⟩]
def r73_12 (φ : Nat → Nat) : List AOper := [
  ⟨0, .N (.loadN 2), [.n 1], none, 0⟩,
  ⟨1, .N .mv, [.n 6], none, 0⟩,
  ⟨2, .N .mv, [.n 7], none, 0⟩,
  ⟨3, .N (.idx 1), [.l 1, .l 0], none, 6⟩,
  ⟨4, .N .load1, [.l 0], none, 14⟩,
  ⟨5, .calli false (φ 10), [.l 4, .l 0], none, 31⟩,
  ⟨6, .N .mv, [.l 0], none, 63⟩]
def r73_13 (φ : Nat → Nat) : List AOper := [
  ⟨0, .N .mv, [.c (.int .i64 0)], none, 0⟩]
def r73_14 (φ : Nat → Nat) : List AOper := [
  ⟨0, .N .mv, [.n 9], none, 0⟩,
  ⟨1, .N .mv, [.n 8], none, 0⟩,
  ⟨2, .N .lenS, [.l 0], none, 0⟩,
  ⟨3, .N (.bin .lss), [.l 2, .l 0], none, 0⟩]
def r73_15 (φ : Nat → Nat) : List AOper := [
  ⟨0, .N .mv, [.n 4], none, 0⟩,
  ⟨1, .N .mv, [.n 8], none, 0⟩,
  ⟨2, .N .mv, [.n 9], none, 0⟩,
  ⟨3, .N (.idx 1), [.l 1, .l 0], none, 0⟩,
  ⟨4, .N .load1, [.l 0], none, 0⟩,
  ⟨5, .N (.idx 1), [.l 4, .l 0], none, 0⟩,
  ⟨6, .N .load1, [.l 0], none, 0⟩,
  ⟨7, .N (.un .not), [.l 0], none, 0⟩]
def r73_16 (φ : Nat → Nat) : List AOper := [
  ⟨0, .N .mv, [.n 4], none, 0⟩,
  ⟨1, .N .mv, [.n 8], none, 0⟩,
  ⟨2, .N .mv, [.n 9], none, 0⟩,
  ⟨3, .N (.idx 1), [.l 1, .l 0], none, 0⟩,
  ⟨4, .N .load1, [.l 0], none, 0⟩,
  ⟨5, .N (.idx 1), [.l 4, .l 0], none, 0⟩,
  ⟨6, .X (.store 1), [.l 0, .c (.bool true)], none, 0⟩]
def r73_17 (φ : Nat → Nat) : List AOper := [
  ⟨0, .N .mv, [.n 6], none, 0⟩,
  ⟨1, .N .mv, [.n 8], none, 0⟩,
  ⟨2, .N .mv, [.n 9], none, 0⟩,
  ⟨3, .N (.idx 1), [.l 1, .l 0], none, 0⟩,
  ⟨4, .N .load1, [.l 0], none, 0⟩,
  ⟨5, .N (.bsl [.int .i64 0] 1 1 [(0, 1)]), [.l 0], none, 0⟩,
  ⟨6, .X (.app 1 8), [.l 5, .l 0], none, 0⟩,
  ⟨7, .N .mv, [.l 0], none, 0⟩]
def r73_18 (φ : Nat → Nat) : List AOper := [
  ⟨0, .N .mv, [.n 9], none, 0⟩,
  ⟨1, .N (.bin .add), [.l 0, .c (.int .i64 1)], none, 0⟩,
  ⟨2, .N .mv, [.l 0], none, 0⟩]
def l73_19 (φ : Nat → Nat) : ACode := .seq (.seq (.reg false (r73_14 φ) [(14, 0)]) (.cond (.n 14) (.skip) (.exit 4))) (.seq (.block 5 (.seq (.reg false (r73_15 φ) [(15, 0)]) (.cond (.n 15) (.seq (.reg false (r73_16 φ) []) (.reg false (r73_17 φ) [(6, 0)])) (.skip)))) (.reg false (r73_18 φ) [(9, 0)]))
def r73_20 (φ : Nat → Nat) : List AOper := [
  ⟨0, .N .mv, [.n 7], none, 0⟩,
  ⟨1, .N (.bin .add), [.l 0, .c (.int .i64 1)], none, 0⟩,
  ⟨2, .N .mv, [.l 0], none, 0⟩]
def l73_21 (φ : Nat → Nat) : ACode := .seq (.seq (.reg false (r73_11 φ) [(13, 0)]) (.cond (.n 13) (.skip) (.exit 2))) (.seq (.block 3 (.seq (.reg true (r73_12 φ) [(8, 0)]) (.seq (.reg false (r73_13 φ) [(9, 0)]) (.block 4 (.loop (l73_19 φ)))))) (.reg false (r73_20 φ) [(7, 0)]))
def r73_22 (φ : Nat → Nat) : List AOper := [
  ⟨0, .N .mv, [.n 3], none, 0⟩,
  ⟨1, .N .mv, [.n 6], none, 0⟩,
  ⟨2, .calli false (φ 30), [.l 0], none, 0⟩,
  ⟨3, .N (.bsl [.nils] 1 1 [(0, 1)]), [.l 0], none, 0⟩,
  ⟨4, .X (.app 1 24), [.l 3, .l 0], none, 0⟩,
  ⟨5, .N .mv, [.l 0], none, 0⟩]
def r73_23 (φ : Nat → Nat) : List AOper := [
  ⟨0, .N .mv, [.n 5], none, 0⟩,
  ⟨1, .N (.bin .add), [.l 0, .c (.int .i64 1)], none, 0⟩,
  ⟨2, .N .mv, [.l 0], none, 0⟩]
def l73_24 (φ : Nat → Nat) : ACode := .seq (.seq (.reg false (r73_6 φ) [(11, 0)]) (.cond (.n 11) (.skip) (.exit 0))) (.seq (.block 1 (.seq (.seq (.reg false (r73_7 φ) [(12, 0)]) (.cond (.n 12) (.exit 1) (.skip))) (.seq (.reg false (r73_8 φ) [(6, 0)]) (.seq (.reg false (r73_9 φ) []) (.seq (.seq (.reg false (r73_10 φ) [(7, 0)]) (.block 2 (.loop (l73_21 φ)))) (.reg false (r73_22 φ) [(3, 0)])))))) (.reg false (r73_23 φ) [(5, 0)]))
def r73_25 (φ : Nat → Nat) : List AOper := [
  ⟨0, .N .mv, [.n 3], none, 0⟩,
  ⟨1, .N .mv, [.l 0], none, 0⟩]
def b73 (φ : Nat → Nat) : ACode := .seq (.reg false (r73_0 φ) [(1, 1), (2, 0)]) (.seq (.reg false (r73_1 φ) [(3, 0)]) (.seq (.seq (.reg false (r73_2 φ) [(10, 0)]) (.cond (.n 10) (.seq (.reg false (r73_3 φ) [(2, 0)]) (.ret)) (.skip))) (.seq (.reg false (r73_4 φ) [(4, 0)]) (.seq (.seq (.reg false (r73_5 φ) [(5, 0)]) (.block 0 (.loop (l73_24 φ)))) (.seq (.reg false (r73_25 φ) [(2, 0)]) (.ret))))))
def f73 (φ : Nat → Nat) : AFn := ⟨1, [0, 1, 2, 3, 4, 5, 6, 7, 8, 9, 13, 21, 27, 36, 48, 58], 78, b73 φ, [.t 2]⟩
/-! 82: (*carcanet/carcanetref04.Part).Is: 0:p 1:a 2: -/
def r82_0 (φ : Nat → Nat) : List AOper := [
  ⟨0, .N .mv, [.c (.bool false)], none, 0⟩]
def r82_1 (φ : Nat → Nat) : List AOper := [
  ⟨0, .N .mv, [.n 1], none, 0⟩,
  ⟨1, .N (.bin .geq), [.l 0, .c (.int .i64 0)], none, 0⟩,
  ⟨2, .N .mv, [.l 0], none, 0⟩,
  ⟨3, .N .mv, [.n 1], some (.l 0, true), 0⟩,
  ⟨4, .N .mv, [.n 0], some (.l 1, true), 0⟩,
  ⟨5, .N .nilc, [.l 0], some (.l 2, true), 0⟩,
  ⟨6, .N (.fadd 0), [.l 0], some (.l 3, true), 0⟩,
  ⟨7, .N .load1, [.l 0], some (.l 4, true), 0⟩,
  ⟨8, .N .lenS, [.l 0], some (.l 5, true), 0⟩,
  ⟨9, .N (.bin .lss), [.l 5, .l 0], some (.l 6, true), 0⟩,
  ⟨10, .N .pick, [.l 7, .l 0, .c (.bool false)], none, 0⟩,
  ⟨11, .N .mv, [.l 0], none, 0⟩]
def b82 (φ : Nat → Nat) : ACode := .seq (.reg false (r82_0 φ) [(2, 0)]) (.seq (.reg false (r82_1 φ) [(2, 0)]) (.ret))
def f82 (φ : Nat → Nat) : AFn := ⟨2, [0, 1, 4], 16, b82 φ, [.t 2]⟩
end Go.Ai.G
/- Functions of the program (package cmp) as code of the abstract machine: written by a program of this session out of the elaborated operations. -/
namespace Go.Ai.G
set_option maxRecDepth 100000
set_option linter.unusedVariables false
/-! 35: cmp.Compare[int]: 0:x 1:y 2: 3:xNaN 4:yNaN 5: 6: 7: 8: 9: -/
def r35_0 (φ : Nat → Nat) : List AOper := [
  ⟨0, .N .mv, [.c (.int .i64 0)], none, 0⟩]
def r35_1 (φ : Nat → Nat) : List AOper := [
  ⟨0, .N .mv, [.n 0], none, 0⟩,
  ⟨1, .calli true (φ 37), [.l 0], none, 0⟩,
  ⟨2, .N .mv, [.l 0], none, 0⟩]
def r35_2 (φ : Nat → Nat) : List AOper := [
  ⟨0, .N .mv, [.n 1], none, 0⟩,
  ⟨1, .calli true (φ 37), [.l 0], none, 0⟩,
  ⟨2, .N .mv, [.l 0], none, 0⟩]
def r35_3 (φ : Nat → Nat) : List AOper := [
  ⟨0, .N .mv, [.n 3], none, 0⟩]
def r35_4 (φ : Nat → Nat) : List AOper := [
  ⟨0, .N .mv, [.n 4], none, 0⟩]
def r35_5 (φ : Nat → Nat) : List AOper := [
  ⟨0, .N .mv, [.c (.int .i64 0)], none, 0⟩]
def r35_6 (φ : Nat → Nat) : List AOper := [
  ⟨0, .N .mv, [.c (.int .i64 (-1))], none, 0⟩]
def r35_7 (φ : Nat → Nat) : List AOper := [
  ⟨0, .N .mv, [.n 4], none, 0⟩]
def r35_8 (φ : Nat → Nat) : List AOper := [
  ⟨0, .N .mv, [.c (.int .i64 1)], none, 0⟩]
def r35_9 (φ : Nat → Nat) : List AOper := [
  ⟨0, .N .mv, [.n 0], none, 0⟩,
  ⟨1, .N .mv, [.n 1], none, 0⟩,
  ⟨2, .N (.bin .lss), [.l 1, .l 0], none, 0⟩]
def r35_10 (φ : Nat → Nat) : List AOper := [
  ⟨0, .N .mv, [.c (.int .i64 (-1))], none, 0⟩]
def r35_11 (φ : Nat → Nat) : List AOper := [
  ⟨0, .N .mv, [.n 0], none, 0⟩,
  ⟨1, .N .mv, [.n 1], none, 0⟩,
  ⟨2, .N (.bin .gtr), [.l 1, .l 0], none, 0⟩]
def r35_12 (φ : Nat → Nat) : List AOper := [
  ⟨0, .N .mv, [.c (.int .i64 1)], none, 0⟩]
def r35_13 (φ : Nat → Nat) : List AOper := [
  ⟨0, .N .mv, [.c (.int .i64 0)], none, 0⟩]
def b35 (φ : Nat → Nat) : ACode := .seq (.reg false (r35_0 φ) [(2, 0)]) (.seq (.reg false (r35_1 φ) [(3, 0)]) (.seq (.reg false (r35_2 φ) [(4, 0)]) (.seq (.seq (.reg false (r35_3 φ) [(5, 0)]) (.cond (.n 5) (.seq (.seq (.reg false (r35_4 φ) [(6, 0)]) (.cond (.n 6) (.seq (.reg false (r35_5 φ) [(2, 0)]) (.ret)) (.skip))) (.seq (.reg false (r35_6 φ) [(2, 0)]) (.ret))) (.skip))) (.seq (.seq (.reg false (r35_7 φ) [(7, 0)]) (.cond (.n 7) (.seq (.reg false (r35_8 φ) [(2, 0)]) (.ret)) (.skip))) (.seq (.seq (.reg false (r35_9 φ) [(8, 0)]) (.cond (.n 8) (.seq (.reg false (r35_10 φ) [(2, 0)]) (.ret)) (.skip))) (.seq (.seq (.reg false (r35_11 φ) [(9, 0)]) (.cond (.n 9) (.seq (.reg false (r35_12 φ) [(2, 0)]) (.ret)) (.skip))) (.seq (.reg false (r35_13 φ) [(2, 0)]) (.ret))))))))
def f35 (φ : Nat → Nat) : AFn := ⟨2, [0, 1, 4, 5, 6, 11, 12, 13, 16, 19], 20, b35 φ, [.t 2]⟩
/-! 36: cmp.Or[int]: 0:vals 1: 2:zero 3:val 4: 5: 6: 7: 8: -/
def r36_0 (φ : Nat → Nat) : List AOper := [
  ⟨0, .N .mv, [.c (.int .i64 0)], none, 0⟩]
def r36_1 (φ : Nat → Nat) : List AOper := [
  ⟨0, .N .mv, [.c (.int .i64 0)], none, 0⟩]
def r36_2 (φ : Nat → Nat) : List AOper := [
  ⟨0, .N .mv, [.n 0], none, 0⟩,
  ⟨1, .N .lenS, [.l 0], none, 0⟩,
  ⟨2, .N .mv, [.c (.int .i64 0)], none, 0⟩]
def r36_3 (φ : Nat → Nat) : List AOper := [
  ⟨0, .N (.bin .lss), [.n 6, .n 5], none, 0⟩]
def r36_4 (φ : Nat → Nat) : List AOper := [
  ⟨0, .N (.idx 1), [.n 4, .n 6], none, 0⟩,
  ⟨1, .N .load1, [.l 0], none, 0⟩,
  ⟨2, .N .mv, [.l 0], none, 0⟩]
def r36_5 (φ : Nat → Nat) : List AOper := [
  ⟨0, .N .mv, [.n 3], none, 0⟩,
  ⟨1, .N .mv, [.n 2], none, 0⟩,
  ⟨2, .N (.bin .neq), [.l 1, .l 0], none, 0⟩]
def r36_6 (φ : Nat → Nat) : List AOper := [
  ⟨0, .N .mv, [.n 3], none, 0⟩,
  ⟨1, .N .mv, [.l 0], none, 0⟩]
def r36_7 (φ : Nat → Nat) : List AOper := [
  ⟨0, .N (.bin .add), [.n 6, .c (.int .i64 1)], none, 0⟩,
  ⟨1, .N .mv, [.l 0], none, 0⟩]
def l36_8 (φ : Nat → Nat) : ACode := .seq (.reg false (r36_3 φ) [(7, 0)]) (.seq (.cond (.n 7) (.skip) (.exit 0)) (.seq (.block 1 (.seq (.reg false (r36_4 φ) [(3, 0)]) (.seq (.reg false (r36_5 φ) [(8, 0)]) (.cond (.n 8) (.seq (.reg false (r36_6 φ) [(1, 0)]) (.ret)) (.skip))))) (.reg false (r36_7 φ) [(6, 0)])))
def r36_9 (φ : Nat → Nat) : List AOper := [
  ⟨0, .N .mv, [.n 2], none, 0⟩,
  ⟨1, .N .mv, [.l 0], none, 0⟩]
def b36 (φ : Nat → Nat) : ACode := .seq (.reg false (r36_0 φ) [(1, 0)]) (.seq (.reg false (r36_1 φ) [(2, 0)]) (.seq (.seq (.reg false (r36_2 φ) [(4, 2), (5, 1), (6, 0)]) (.block 0 (.loop (l36_8 φ)))) (.seq (.reg false (r36_9 φ) [(1, 0)]) (.ret))))
def f36 (φ : Nat → Nat) : AFn := ⟨1, [0, 2, 3, 5, 6, 7, 8, 9, 14], 18, b36 φ, [.t 1]⟩
/-! 37: cmp.isNaN[int]: 0:x 1: -/
def r37_0 (φ : Nat → Nat) : List AOper := [
  ⟨0, .N .mv, [.c (.bool false)], none, 0⟩]
def r37_1 (φ : Nat → Nat) : List AOper := [
  ⟨0, .N .mv, [.n 0], none, 0⟩,
  ⟨1, .N .mv, [.n 0], none, 0⟩,
  ⟨2, .N (.bin .neq), [.l 1, .l 0], none, 0⟩,
  ⟨3, .N .mv, [.l 0], none, 0⟩]
def b37 (φ : Nat → Nat) : ACode := .seq (.reg false (r37_0 φ) [(1, 0)]) (.seq (.reg false (r37_1 φ) [(1, 0)]) (.ret))
def f37 (φ : Nat → Nat) : AFn := ⟨1, [0, 2], 6, b37 φ, [.t 1]⟩
end Go.Ai.G
/- Functions of the program (package graph) as code of the abstract machine: written by a program of this session out of the elaborated operations. -/
namespace Go.Ai.G
set_option maxRecDepth 100000
set_option linter.unusedVariables false
/-! 1: carcanet/graph.Normal: 0:n 1:l 2: 3: 4:all 5:x 6: 7: 8: 9: 10: 11: 12: 13: 14: -/
def r1_0 (φ : Nat → Nat) : List AOper := [
  ⟨0, .N (.alloc [.int .i64 0, .nils]), [], none, 0⟩,
  ⟨1, .N .mv, [.c (.int .i64 0)], none, 0⟩]
def r1_1 (φ : Nat → Nat) : List AOper := [
  ⟨0, .N .mv, [.n 0], none, 0⟩,
  ⟨1, .N (.bin .lss), [.l 0, .c (.int .i64 0)], none, 0⟩,
  ⟨2, .N .mv, [.l 0], none, 0⟩]
def r1_2 (φ : Nat → Nat) : List AOper := [
  ⟨0, .N (.build [.int .i64 0, .nils] []), [], none, 0⟩,
  ⟨1, .X (.store 2), [.n 2, .l 0], none, 0⟩,
  ⟨2, .N .mv, [.c (.int .i64 1)], none, 0⟩]
def r1_3 (φ : Nat → Nat) : List AOper := [
  ⟨0, .N .mv, [.n 0], none, 0⟩,
  ⟨1, .N (.bin .gtr), [.l 0, .c (.int .i64 1000)], none, 0⟩,
  ⟨2, .N .mv, [.l 0], none, 0⟩]
def r1_4 (φ : Nat → Nat) : List AOper := [
  ⟨0, .N (.build [.int .i64 0, .nils] []), [], none, 0⟩,
  ⟨1, .X (.store 2), [.n 2, .l 0], none, 0⟩,
  ⟨2, .N .mv, [.c (.int .i64 5)], none, 0⟩]
def r1_5 (φ : Nat → Nat) : List AOper := [
  ⟨0, .N .mv, [.c (.nils)], none, 0⟩]
def r1_6 (φ : Nat → Nat) : List AOper := [
  ⟨0, .N .mv, [.n 1], none, 0⟩,
  ⟨1, .N .lenS, [.l 0], none, 0⟩,
  ⟨2, .N .mv, [.c (.int .i64 0)], none, 0⟩]
def r1_7 (φ : Nat → Nat) : List AOper := [
  ⟨0, .N (.bin .lss), [.n 10, .n 9], none, 0⟩]
def r1_8 (φ : Nat → Nat) : List AOper := [
  ⟨0, .N (.idx 2), [.n 8, .n 10], none, 0⟩,
  ⟨1, .N (.loadN 2), [.l 0], none, 0⟩,
  ⟨2, .N (.alloc [.int .i64 0, .int .i64 0]), [], none, 0⟩,
  ⟨3, .X (.store 2), [.l 0, .l 1], none, 0⟩]
def r1_9 (φ : Nat → Nat) : List AOper := [
  ⟨0, .N (.fadd 0), [.n 5], none, 0⟩,
  ⟨1, .N .load1, [.l 0], none, 0⟩,
  ⟨2, .N (.fadd 1), [.n 5], none, 0⟩,
  ⟨3, .N .load1, [.l 0], none, 0⟩,
  ⟨4, .N .min, [.l 2, .l 0], none, 0⟩,
  ⟨5, .N (.bin .lss), [.l 0, .c (.int .i64 0)], none, 0⟩,
  ⟨6, .N .mv, [.l 0], none, 0⟩,
  ⟨7, .N (.fadd 0), [.n 5], some (.l 0, false), 0⟩,
  ⟨8, .N .load1, [.l 0], some (.l 1, false), 0⟩,
  ⟨9, .N (.fadd 1), [.n 5], some (.l 2, false), 0⟩,
  ⟨10, .N .load1, [.l 0], some (.l 3, false), 0⟩,
  ⟨11, .N .max, [.l 2, .l 0], some (.l 4, false), 0⟩,
  ⟨12, .N .mv, [.n 0], some (.l 5, false), 0⟩,
  ⟨13, .N (.bin .geq), [.l 1, .l 0], some (.l 6, false), 0⟩,
  ⟨14, .N .pick, [.l 7, .c (.bool true), .l 0], none, 0⟩]
def r1_10 (φ : Nat → Nat) : List AOper := [
  ⟨0, .N (.build [.int .i64 0, .nils] []), [], none, 0⟩,
  ⟨1, .X (.store 2), [.n 2, .l 0], none, 0⟩,
  ⟨2, .N .mv, [.c (.int .i64 4)], none, 0⟩]
def r1_11 (φ : Nat → Nat) : List AOper := [
  ⟨0, .N (.fadd 0), [.n 5], none, 0⟩,
  ⟨1, .N .load1, [.l 0], none, 0⟩,
  ⟨2, .N (.fadd 1), [.n 5], none, 0⟩,
  ⟨3, .N .load1, [.l 0], none, 0⟩,
  ⟨4, .N (.bin .neq), [.l 2, .l 0], none, 0⟩]
def r1_12 (φ : Nat → Nat) : List AOper := [
  ⟨0, .N .mv, [.n 4], none, 0⟩,
  ⟨1, .N (.fadd 0), [.n 5], none, 0⟩,
  ⟨2, .N .load1, [.l 0], none, 0⟩,
  ⟨3, .N (.fadd 1), [.n 5], none, 0⟩,
  ⟨4, .N .load1, [.l 0], none, 0⟩,
  ⟨5, .N .min, [.l 2, .l 0], none, 0⟩,
  ⟨6, .N (.fadd 0), [.n 5], none, 0⟩,
  ⟨7, .N .load1, [.l 0], none, 0⟩,
  ⟨8, .N (.fadd 1), [.n 5], none, 0⟩,
  ⟨9, .N .load1, [.l 0], none, 0⟩,
  ⟨10, .N .max, [.l 2, .l 0], none, 0⟩,
  ⟨11, .N (.build [.int .i64 0, .int .i64 0] [(0, 1), (1, 1)]), [.l 5, .l 0], none, 0⟩,
  ⟨12, .N (.bsl [.int .i64 0, .int .i64 0] 1 2 [(0, 2)]), [.l 0], none, 0⟩,
  ⟨13, .X (.app 2 16), [.l 12, .l 0], none, 0⟩,
  ⟨14, .N .mv, [.l 0], none, 0⟩]
def r1_13 (φ : Nat → Nat) : List AOper := [
  ⟨0, .N (.bin .add), [.n 10, .c (.int .i64 1)], none, 0⟩,
  ⟨1, .N .mv, [.l 0], none, 0⟩]
def l1_14 (φ : Nat → Nat) : ACode := .seq (.reg false (r1_7 φ) [(11, 0)]) (.seq (.cond (.n 11) (.skip) (.exit 1)) (.seq (.block 2 (.seq (.reg false (r1_8 φ) [(5, 1)]) (.seq (.seq (.reg false (r1_9 φ) [(12, 0)]) (.cond (.n 12) (.seq (.reg false (r1_10 φ) [(3, 0)]) (.ret)) (.skip))) (.seq (.reg false (r1_11 φ) [(13, 0)]) (.cond (.n 13) (.reg false (r1_12 φ) [(4, 0)]) (.skip)))))) (.reg false (r1_13 φ) [(10, 0)])))
def r1_15 (φ : Nat → Nat) : List AOper := [
  ⟨0, .N .mv, [.n 4], none, 0⟩,
  ⟨1, .call (φ 27), [.l 0, .c (.fn (.func (φ 29)) [] [])], none, 0⟩]
def r1_16 (φ : Nat → Nat) : List AOper := [
  ⟨0, .N .mv, [.n 4], none, 0⟩,
  ⟨1, .call (φ 28), [.l 0], none, 0⟩,
  ⟨2, .N .mv, [.l 0], none, 0⟩]
def r1_17 (φ : Nat → Nat) : List AOper := [
  ⟨0, .N .mv, [.n 4], none, 0⟩,
  ⟨1, .N .lenS, [.l 0], none, 0⟩,
  ⟨2, .N (.bin .gtr), [.l 0, .c (.int .i64 4000)], none, 0⟩]
def r1_18 (φ : Nat → Nat) : List AOper := [
  ⟨0, .N (.build [.int .i64 0, .nils] []), [], none, 0⟩,
  ⟨1, .X (.store 2), [.n 2, .l 0], none, 0⟩,
  ⟨2, .N .mv, [.c (.int .i64 5)], none, 0⟩]
def r1_19 (φ : Nat → Nat) : List AOper := [
  ⟨0, .N .mv, [.n 0], none, 0⟩,
  ⟨1, .N .mv, [.n 4], none, 0⟩,
  ⟨2, .N (.build [.int .i64 0, .nils] [(0, 1), (1, 1)]), [.l 1, .l 0], none, 0⟩,
  ⟨3, .X (.store 2), [.n 2, .l 0], none, 0⟩,
  ⟨4, .N .mv, [.c (.int .i64 0)], none, 0⟩]
def b1 (φ : Nat → Nat) : ACode := .seq (.reg false (r1_0 φ) [(2, 1), (3, 0)]) (.seq (.block 0 (.seq (.reg false (r1_1 φ) [(6, 0)]) (.cond (.n 6) (.seq (.reg false (r1_2 φ) [(3, 0)]) (.ret)) (.seq (.reg false (r1_3 φ) [(7, 0)]) (.cond (.n 7) (.seq (.reg false (r1_4 φ) [(3, 0)]) (.ret)) (.skip)))))) (.seq (.reg false (r1_5 φ) [(4, 0)]) (.seq (.seq (.reg false (r1_6 φ) [(8, 2), (9, 1), (10, 0)]) (.block 1 (.loop (l1_14 φ)))) (.seq (.reg false (r1_15 φ) []) (.seq (.reg false (r1_16 φ) [(4, 0)]) (.seq (.seq (.reg false (r1_17 φ) [(14, 0)]) (.cond (.n 14) (.seq (.reg false (r1_18 φ) [(3, 0)]) (.ret)) (.skip))) (.seq (.reg false (r1_19 φ) [(3, 0)]) (.ret))))))))
def f1 (φ : Nat → Nat) : AFn := ⟨2, [0, 1, 4, 5, 6, 8, 9, 13, 17, 18, 19, 20, 37, 43, 65], 70, b1 φ, [.cell 2 (some 2), .t 3]⟩
/-! 4: carcanet/graph.Right: 0:g 1:g 2: 3:i 4:x 5: 6: 7: 8: 9: 10: -/
def r4_0 (φ : Nat → Nat) : List AOper := [
  ⟨0, .N .box, [.n 0], none, 0⟩,
  ⟨1, .N .mv, [.c (.bool false)], none, 0⟩]
def r4_1 (φ : Nat → Nat) : List AOper := [
  ⟨0, .N (.fadd 0), [.n 1], none, 0⟩,
  ⟨1, .N .load1, [.l 0], none, 0⟩,
  ⟨2, .N (.bin .lss), [.l 0, .c (.int .i64 0)], none, 0⟩,
  ⟨3, .N .mv, [.l 0], none, 0⟩,
  ⟨4, .N (.fadd 0), [.n 1], some (.l 0, false), 0⟩,
  ⟨5, .N .load1, [.l 0], some (.l 1, false), 0⟩,
  ⟨6, .N (.bin .gtr), [.l 0, .c (.int .i64 1000)], some (.l 2, false), 0⟩,
  ⟨7, .N .pick, [.l 3, .c (.bool true), .l 0], none, 0⟩,
  ⟨8, .N .mv, [.l 0], none, 0⟩,
  ⟨9, .N (.fadd 1), [.n 1], some (.l 0, false), 0⟩,
  ⟨10, .N .load1, [.l 0], some (.l 1, false), 0⟩,
  ⟨11, .N .lenS, [.l 0], some (.l 2, false), 0⟩,
  ⟨12, .N (.bin .gtr), [.l 0, .c (.int .i64 4000)], some (.l 3, false), 0⟩,
  ⟨13, .N .pick, [.l 4, .c (.bool true), .l 0], none, 0⟩]
def r4_2 (φ : Nat → Nat) : List AOper := [
  ⟨0, .N .mv, [.c (.bool false)], none, 0⟩]
def r4_3 (φ : Nat → Nat) : List AOper := [
  ⟨0, .N (.fadd 1), [.n 1], none, 0⟩,
  ⟨1, .N .load1, [.l 0], none, 0⟩,
  ⟨2, .N .lenS, [.l 0], none, 0⟩,
  ⟨3, .N .mv, [.c (.int .i64 0)], none, 0⟩]
def r4_4 (φ : Nat → Nat) : List AOper := [
  ⟨0, .N (.bin .lss), [.n 8, .n 7], none, 0⟩]
def r4_5 (φ : Nat → Nat) : List AOper := [
  ⟨0, .N .mv, [.n 8], none, 0⟩,
  ⟨1, .N (.idx 2), [.n 6, .n 8], none, 0⟩,
  ⟨2, .N (.loadN 2), [.l 0], none, 0⟩,
  ⟨3, .N (.alloc [.int .i64 0, .int .i64 0]), [], none, 0⟩,
  ⟨4, .N .mv, [.l 3], none, 0⟩,
  ⟨5, .X (.store 2), [.l 1, .l 2], none, 0⟩]
def r4_6 (φ : Nat → Nat) : List AOper := [
  ⟨0, .N (.fadd 0), [.n 4], none, 0⟩,
  ⟨1, .N .load1, [.l 0], none, 1⟩,
  ⟨2, .N (.bin .lss), [.l 0, .c (.int .i64 0)], none, 3⟩,
  ⟨3, .N .mv, [.l 0], none, 7⟩,
  ⟨4, .N (.fadd 0), [.n 4], some (.l 0, false), 15⟩,
  ⟨5, .N .load1, [.l 0], some (.l 1, false), 31⟩,
  ⟨6, .N (.fadd 1), [.n 4], some (.l 2, false), 15⟩,
  ⟨7, .N .load1, [.l 0], some (.l 3, false), 79⟩,
  ⟨8, .N (.bin .geq), [.l 2, .l 0], some (.l 4, false), 255⟩,
  ⟨9, .N .pick, [.l 5, .c (.bool true), .l 0], none, 511⟩,
  ⟨10, .N .mv, [.l 0], none, 1023⟩,
  ⟨11, .N (.fadd 1), [.n 4], some (.l 0, false), 2047⟩,
  ⟨12, .N .load1, [.l 0], some (.l 1, false), 4095⟩,
  ⟨13, .N (.fadd 0), [.n 1], some (.l 2, false), 2047⟩,
  ⟨14, .N .load1, [.l 0], some (.l 3, false), 10239⟩,
  ⟨15, .N (.bin .geq), [.l 2, .l 0], some (.l 4, false), 32767⟩,
  ⟨16, .N .pick, [.l 5, .c (.bool true), .l 0], none, 65535⟩,
  ⟨17, .N .mv, [.l 0], none, 131071⟩,
  ⟨18, .N .mv, [.n 3], some (.l 0, false), 262143⟩,
  ⟨19, .N (.bin .gtr), [.l 0, .c (.int .i64 0)], some (.l 1, false), 524287⟩,
  ⟨20, .N .mv, [.l 0], some (.l 2, false), 1048575⟩,
  ⟨21, .N (.fadd 1), [.n 1], some (.l 0, true), 2097151⟩,
  ⟨22, .N .load1, [.l 0], some (.l 1, true), 4194303⟩,
  ⟨23, .N .mv, [.n 3], some (.l 2, true), 2097151⟩,
  ⟨24, .N (.bin .sub), [.l 0, .c (.int .i64 1)], some (.l 3, true), 10485759⟩,
  ⟨25, .N (.idx 2), [.l 2, .l 0], some (.l 4, true), 33554431⟩,
  ⟨26, .N (.loadN 2), [.l 0], some (.l 5, true), 67108863⟩,
  ⟨27, .N (.loadN 2), [.n 4], some (.l 6, true), 2097151⟩,
  ⟨28, .calli true (φ 31), [.l 1, .l 0], some (.l 7, true), 268435455⟩,
  ⟨29, .N (.bin .geq), [.l 0, .c (.int .i64 0)], some (.l 8, true), 536870911⟩,
  ⟨30, .N .pick, [.l 9, .l 0, .c (.bool false)], some (.l 12, false), 1073741823⟩,
  ⟨31, .N .pick, [.l 13, .c (.bool true), .l 0], none, 2147483647⟩]
def r4_7 (φ : Nat → Nat) : List AOper := [
  ⟨0, .N .mv, [.c (.bool false)], none, 0⟩]
def r4_8 (φ : Nat → Nat) : List AOper := [
  ⟨0, .N (.bin .add), [.n 8, .c (.int .i64 1)], none, 0⟩,
  ⟨1, .N .mv, [.l 0], none, 0⟩]
def l4_9 (φ : Nat → Nat) : ACode := .seq (.reg false (r4_4 φ) [(9, 0)]) (.seq (.cond (.n 9) (.skip) (.exit 0)) (.seq (.block 1 (.seq (.reg false (r4_5 φ) [(3, 1), (4, 2)]) (.seq (.reg true (r4_6 φ) [(10, 0)]) (.cond (.n 10) (.seq (.reg false (r4_7 φ) [(2, 0)]) (.ret)) (.skip))))) (.reg false (r4_8 φ) [(8, 0)])))
def r4_10 (φ : Nat → Nat) : List AOper := [
  ⟨0, .N .mv, [.c (.bool true)], none, 0⟩]
def b4 (φ : Nat → Nat) : ACode := .seq (.reg false (r4_0 φ) [(1, 1), (2, 0)]) (.seq (.seq (.reg false (r4_1 φ) [(5, 0)]) (.cond (.n 5) (.seq (.reg false (r4_2 φ) [(2, 0)]) (.ret)) (.skip))) (.seq (.seq (.reg false (r4_3 φ) [(6, 2), (7, 1), (8, 0)]) (.block 0 (.loop (l4_9 φ)))) (.seq (.reg false (r4_10 φ) [(2, 0)]) (.ret))))
def f4 (φ : Nat → Nat) : AFn := ⟨1, [0, 1, 2, 3, 4, 18, 20, 21, 22, 23, 58], 60, b4 φ, [.t 2]⟩
/-! 12: carcanet/graph.Degrees: 0:g 1:g 2: 3:out 4:x 5: 6: 7: 8: 9: -/
def r12_0 (φ : Nat → Nat) : List AOper := [
  ⟨0, .N .box, [.n 0], none, 0⟩,
  ⟨1, .N .mv, [.c (.nils)], none, 0⟩]
def r12_1 (φ : Nat → Nat) : List AOper := [
  ⟨0, .N (.loadN 2), [.n 1], none, 0⟩,
  ⟨1, .calli true (φ 4), [.l 0], none, 0⟩,
  ⟨2, .N (.un .not), [.l 0], none, 0⟩]
def r12_2 (φ : Nat → Nat) : List AOper := [
  ⟨0, .N .mv, [.c (.nils)], none, 0⟩]
def r12_3 (φ : Nat → Nat) : List AOper := [
  ⟨0, .N (.fadd 0), [.n 1], none, 0⟩,
  ⟨1, .N .load1, [.l 0], none, 0⟩,
  ⟨2, .N (.mksl [.int .i64 0] 1 8), [.l 0, .l 0], none, 0⟩,
  ⟨3, .N .mv, [.l 0], none, 0⟩]
def r12_4 (φ : Nat → Nat) : List AOper := [
  ⟨0, .N (.fadd 1), [.n 1], none, 0⟩,
  ⟨1, .N .load1, [.l 0], none, 0⟩,
  ⟨2, .N .lenS, [.l 0], none, 0⟩,
  ⟨3, .N .mv, [.c (.int .i64 0)], none, 0⟩]
def r12_5 (φ : Nat → Nat) : List AOper := [
  ⟨0, .N (.bin .lss), [.n 8, .n 7], none, 0⟩]
def r12_6 (φ : Nat → Nat) : List AOper := [
  ⟨0, .N (.idx 2), [.n 6, .n 8], none, 0⟩,
  ⟨1, .N (.loadN 2), [.l 0], none, 0⟩,
  ⟨2, .N (.alloc [.int .i64 0, .int .i64 0]), [], none, 0⟩,
  ⟨3, .X (.store 2), [.l 0, .l 1], none, 0⟩]
def r12_7 (φ : Nat → Nat) : List AOper := [
  ⟨0, .N .mv, [.n 3], none, 0⟩,
  ⟨1, .N (.fadd 0), [.n 4], none, 0⟩,
  ⟨2, .N .load1, [.l 0], none, 0⟩,
  ⟨3, .N (.idx 1), [.l 2, .l 0], none, 0⟩,
  ⟨4, .N .load1, [.l 0], none, 0⟩,
  ⟨5, .N (.bin .add), [.l 0, .c (.int .i64 1)], none, 0⟩,
  ⟨6, .N (.idx 1), [.l 5, .l 3], none, 0⟩,
  ⟨7, .X (.store 1), [.l 0, .l 1], none, 0⟩]
def r12_8 (φ : Nat → Nat) : List AOper := [
  ⟨0, .N .mv, [.n 3], none, 0⟩,
  ⟨1, .N (.fadd 1), [.n 4], none, 0⟩,
  ⟨2, .N .load1, [.l 0], none, 0⟩,
  ⟨3, .N (.idx 1), [.l 2, .l 0], none, 0⟩,
  ⟨4, .N .load1, [.l 0], none, 0⟩,
  ⟨5, .N (.bin .add), [.l 0, .c (.int .i64 1)], none, 0⟩,
  ⟨6, .N (.idx 1), [.l 5, .l 3], none, 0⟩,
  ⟨7, .X (.store 1), [.l 0, .l 1], none, 0⟩]
def r12_9 (φ : Nat → Nat) : List AOper := [
  ⟨0, .N (.bin .add), [.n 8, .c (.int .i64 1)], none, 0⟩,
  ⟨1, .N .mv, [.l 0], none, 0⟩]
def l12_10 (φ : Nat → Nat) : ACode := .seq (.reg false (r12_5 φ) [(9, 0)]) (.seq (.cond (.n 9) (.skip) (.exit 0)) (.seq (.block 1 (.seq (.reg false (r12_6 φ) [(4, 1)]) (.seq (.reg false (r12_7 φ) []) (.reg false (r12_8 φ) [])))) (.reg false (r12_9 φ) [(8, 0)])))
def r12_11 (φ : Nat → Nat) : List AOper := [
  ⟨0, .N .mv, [.n 3], none, 0⟩,
  ⟨1, .N .mv, [.l 0], none, 0⟩]
def b12 (φ : Nat → Nat) : ACode := .seq (.reg false (r12_0 φ) [(1, 1), (2, 0)]) (.seq (.seq (.reg false (r12_1 φ) [(5, 0)]) (.cond (.n 5) (.seq (.reg false (r12_2 φ) [(2, 0)]) (.ret)) (.skip))) (.seq (.reg false (r12_3 φ) [(3, 0)]) (.seq (.seq (.reg false (r12_4 φ) [(6, 2), (7, 1), (8, 0)]) (.block 0 (.loop (l12_10 φ)))) (.seq (.reg false (r12_11 φ) [(2, 0)]) (.ret)))))
def f12 (φ : Nat → Nat) : AFn := ⟨1, [0, 1, 2, 3, 5, 8, 13, 14, 15, 16], 35, b12 φ, [.t 2]⟩
/-! 15: carcanet/graph.Add: 0:g 1:a 2:b 3:g 4: 5: 6: 7: 8: -/
def r15_0 (φ : Nat → Nat) : List AOper := [
  ⟨0, .N .box, [.n 0], none, 0⟩,
  ⟨1, .N (.alloc [.int .i64 0, .nils]), [], none, 0⟩,
  ⟨2, .N .mv, [.c (.int .i64 0)], none, 0⟩]
def r15_1 (φ : Nat → Nat) : List AOper := [
  ⟨0, .N (.loadN 2), [.n 3], none, 0⟩,
  ⟨1, .calli true (φ 4), [.l 0], none, 0⟩,
  ⟨2, .N (.un .not), [.l 0], none, 0⟩,
  ⟨3, .N .mv, [.l 0], none, 0⟩]
def r15_2 (φ : Nat → Nat) : List AOper := [
  ⟨0, .N (.build [.int .i64 0, .nils] []), [], none, 0⟩,
  ⟨1, .X (.store 2), [.n 4, .l 0], none, 0⟩,
  ⟨2, .N .mv, [.c (.int .i64 1)], none, 0⟩]
def r15_3 (φ : Nat → Nat) : List AOper := [
  ⟨0, .N .mv, [.n 1], none, 0⟩,
  ⟨1, .N .mv, [.n 2], none, 0⟩,
  ⟨2, .N .min, [.l 1, .l 0], none, 0⟩,
  ⟨3, .N (.bin .lss), [.l 0, .c (.int .i64 0)], none, 0⟩,
  ⟨4, .N .mv, [.l 0], none, 0⟩,
  ⟨5, .N .mv, [.n 1], some (.l 0, false), 0⟩,
  ⟨6, .N .mv, [.n 2], some (.l 1, false), 0⟩,
  ⟨7, .N .max, [.l 1, .l 0], some (.l 2, false), 0⟩,
  ⟨8, .N (.fadd 0), [.n 3], some (.l 3, false), 0⟩,
  ⟨9, .N .load1, [.l 0], some (.l 4, false), 0⟩,
  ⟨10, .N (.bin .geq), [.l 2, .l 0], some (.l 5, false), 0⟩,
  ⟨11, .N .pick, [.l 6, .c (.bool true), .l 0], none, 0⟩,
  ⟨12, .N .mv, [.l 0], none, 0⟩]
def r15_4 (φ : Nat → Nat) : List AOper := [
  ⟨0, .N (.build [.int .i64 0, .nils] []), [], none, 0⟩,
  ⟨1, .X (.store 2), [.n 4, .l 0], none, 0⟩,
  ⟨2, .N .mv, [.c (.int .i64 4)], none, 0⟩]
def r15_5 (φ : Nat → Nat) : List AOper := [
  ⟨0, .N .mv, [.n 1], none, 0⟩,
  ⟨1, .N .mv, [.n 2], none, 0⟩,
  ⟨2, .N (.bin .eql), [.l 1, .l 0], none, 0⟩,
  ⟨3, .N .mv, [.l 0], none, 0⟩]
def r15_6 (φ : Nat → Nat) : List AOper := [
  ⟨0, .N (.build [.int .i64 0, .nils] []), [], none, 0⟩,
  ⟨1, .X (.store 2), [.n 4, .l 0], none, 0⟩,
  ⟨2, .N .mv, [.c (.int .i64 1)], none, 0⟩]
def r15_7 (φ : Nat → Nat) : List AOper := [
  ⟨0, .N (.fadd 0), [.n 3], none, 0⟩,
  ⟨1, .N .load1, [.l 0], none, 1⟩,
  ⟨2, .N (.fadd 1), [.n 3], none, 0⟩,
  ⟨3, .N .load1, [.l 0], none, 4⟩,
  ⟨5, .N .mv, [.n 1], none, 0⟩,
  ⟨6, .N .mv, [.n 2], none, 0⟩,
  ⟨7, .N (.build [.int .i64 0, .int .i64 0] [(0, 1), (1, 1)]), [.l 1, .l 0], none, 48⟩,
  ⟨8, .N (.bsl [.int .i64 0, .int .i64 0] 1 2 [(0, 2)]), [.l 0], none, 112⟩,
  ⟨4, .call (φ 32), [.l 4], none, 12⟩,
  ⟨9, .X (.app 2 16), [.l 0, .l 1], none, 508⟩,
  ⟨10, .calli false (φ 1), [.l 8, .l 0], none, 1023⟩,
  ⟨11, .N (.ext 0), [.l 0], none, 2047⟩,
  ⟨12, .N (.ext 1), [.l 1], none, 2047⟩,
  ⟨13, .X (.store 2), [.n 4, .l 1], none, 8191⟩,
  ⟨14, .N .mv, [.l 1], none, 16383⟩]
def b15 (φ : Nat → Nat) : ACode := .seq (.reg false (r15_0 φ) [(3, 2), (4, 1), (5, 0)]) (.seq (.block 0 (.seq (.reg false (r15_1 φ) [(6, 0)]) (.cond (.n 6) (.seq (.reg false (r15_2 φ) [(5, 0)]) (.ret)) (.seq (.reg false (r15_3 φ) [(7, 0)]) (.cond (.n 7) (.seq (.reg false (r15_4 φ) [(5, 0)]) (.ret)) (.seq (.reg false (r15_5 φ) [(8, 0)]) (.cond (.n 8) (.seq (.reg false (r15_6 φ) [(5, 0)]) (.ret)) (.skip)))))))) (.seq (.reg true (r15_7 φ) [(5, 0)]) (.ret)))
def f15 (φ : Nat → Nat) : AFn := ⟨3, [0, 1, 2, 3, 6, 7, 8, 13, 27], 45, b15 φ, [.cell 4 (some 2), .t 5]⟩
/-! 17: carcanet/graph.Without: 0:g 1:a 2:b 3:g 4: 5: 6:i 7: 8: -/
def r17_0 (φ : Nat → Nat) : List AOper := [
  ⟨0, .N .box, [.n 0], none, 0⟩,
  ⟨1, .N (.alloc [.int .i64 0, .nils]), [], none, 0⟩,
  ⟨2, .N .mv, [.c (.int .i64 0)], none, 0⟩]
def r17_1 (φ : Nat → Nat) : List AOper := [
  ⟨0, .N (.loadN 2), [.n 3], none, 0⟩,
  ⟨1, .calli true (φ 4), [.l 0], none, 0⟩,
  ⟨2, .N (.un .not), [.l 0], none, 0⟩]
def r17_2 (φ : Nat → Nat) : List AOper := [
  ⟨0, .N (.build [.int .i64 0, .nils] []), [], none, 0⟩,
  ⟨1, .X (.store 2), [.n 4, .l 0], none, 0⟩,
  ⟨2, .N .mv, [.c (.int .i64 1)], none, 0⟩]
def r17_3 (φ : Nat → Nat) : List AOper := [
  ⟨0, .N (.fadd 1), [.n 3], none, 0⟩,
  ⟨1, .N .load1, [.l 0], none, 0⟩,
  ⟨2, .N .mv, [.n 1], none, 0⟩,
  ⟨3, .N .mv, [.n 2], none, 0⟩,
  ⟨4, .N .min, [.l 1, .l 0], none, 0⟩,
  ⟨5, .N .mv, [.n 1], none, 0⟩,
  ⟨6, .N .mv, [.n 2], none, 0⟩,
  ⟨7, .N .max, [.l 1, .l 0], none, 0⟩,
  ⟨8, .N (.build [.int .i64 0, .int .i64 0] [(0, 1), (1, 1)]), [.l 3, .l 0], none, 0⟩,
  ⟨9, .calli true (φ 33), [.l 7, .l 0], none, 0⟩,
  ⟨10, .N .mv, [.l 0], none, 0⟩]
def r17_4 (φ : Nat → Nat) : List AOper := [
  ⟨0, .N .mv, [.n 6], none, 0⟩,
  ⟨1, .N (.bin .lss), [.l 0, .c (.int .i64 0)], none, 0⟩]
def r17_5 (φ : Nat → Nat) : List AOper := [
  ⟨0, .N (.build [.int .i64 0, .nils] []), [], none, 0⟩,
  ⟨1, .X (.store 2), [.n 4, .l 0], none, 0⟩,
  ⟨2, .N .mv, [.c (.int .i64 6)], none, 0⟩]
def r17_6 (φ : Nat → Nat) : List AOper := [
  ⟨0, .N (.fadd 0), [.n 3], none, 0⟩,
  ⟨1, .N .load1, [.l 0], none, 1⟩,
  ⟨2, .N (.fadd 1), [.n 3], none, 0⟩,
  ⟨3, .N .load1, [.l 0], none, 4⟩,
  ⟨5, .N .mv, [.n 6], none, 0⟩,
  ⟨6, .N .mv, [.n 6], none, 0⟩,
  ⟨7, .N (.bin .add), [.l 0, .c (.int .i64 1)], none, 32⟩,
  ⟨4, .call (φ 32), [.l 3], none, 12⟩,
  ⟨8, .call (φ 34), [.l 0, .l 3, .l 1], none, 252⟩,
  ⟨9, .N (.build [.int .i64 0, .nils] [(0, 1), (1, 1)]), [.l 7, .l 0], none, 511⟩,
  ⟨10, .X (.store 2), [.n 4, .l 0], none, 1023⟩,
  ⟨11, .N .mv, [.c (.int .i64 0)], none, 2047⟩]
def b17 (φ : Nat → Nat) : ACode := .seq (.reg false (r17_0 φ) [(3, 2), (4, 1), (5, 0)]) (.seq (.seq (.reg false (r17_1 φ) [(7, 0)]) (.cond (.n 7) (.seq (.reg false (r17_2 φ) [(5, 0)]) (.ret)) (.skip))) (.seq (.reg false (r17_3 φ) [(6, 0)]) (.seq (.seq (.reg false (r17_4 φ) [(8, 0)]) (.cond (.n 8) (.seq (.reg false (r17_5 φ) [(5, 0)]) (.ret)) (.skip))) (.seq (.reg true (r17_6 φ) [(5, 0)]) (.ret)))))
def f17 (φ : Nat → Nat) : AFn := ⟨3, [0, 1, 2, 3, 6, 7, 8, 11, 24], 36, b17 φ, [.cell 4 (some 2), .t 5]⟩
/-! 29: carcanet/graph.Normal$1: 0:x 1:y 2:x 3:y 4: -/
def r29_0 (φ : Nat → Nat) : List AOper := [
  ⟨0, .N .box, [.n 0], none, 0⟩,
  ⟨1, .N .box, [.n 1], none, 0⟩,
  ⟨2, .N .mv, [.c (.int .i64 0)], none, 0⟩]
def r29_1 (φ : Nat → Nat) : List AOper := [
  ⟨0, .N (.loadN 2), [.n 2], none, 0⟩,
  ⟨1, .N (.loadN 2), [.n 3], none, 0⟩,
  ⟨2, .calli true (φ 31), [.l 1, .l 0], none, 0⟩,
  ⟨3, .N .mv, [.l 0], none, 0⟩]
def b29 (φ : Nat → Nat) : ACode := .seq (.reg false (r29_0 φ) [(2, 2), (3, 1), (4, 0)]) (.seq (.reg false (r29_1 φ) [(4, 0)]) (.ret))
def f29 (φ : Nat → Nat) : AFn := ⟨2, [0, 1, 2, 3, 4], 8, b29 φ, [.t 4]⟩
/-! 31: carcanet/graph.compare: 0:x 1:y 2:x 3:y 4: -/
def r31_0 (φ : Nat → Nat) : List AOper := [
  ⟨0, .N .box, [.n 0], none, 0⟩,
  ⟨1, .N .box, [.n 1], none, 0⟩,
  ⟨2, .N .mv, [.c (.int .i64 0)], none, 0⟩]
def r31_1 (φ : Nat → Nat) : List AOper := [
  ⟨0, .N (.fadd 0), [.n 2], none, 0⟩,
  ⟨1, .N .load1, [.l 0], none, 1⟩,
  ⟨2, .N (.fadd 0), [.n 3], none, 0⟩,
  ⟨3, .N .load1, [.l 0], none, 4⟩,
  ⟨5, .N (.fadd 1), [.n 2], none, 0⟩,
  ⟨6, .N .load1, [.l 0], none, 16⟩,
  ⟨7, .N (.fadd 1), [.n 3], none, 0⟩,
  ⟨8, .N .load1, [.l 0], none, 64⟩,
  ⟨4, .calli true (φ 35), [.l 6, .l 4], none, 15⟩,
  ⟨9, .calli true (φ 35), [.l 3, .l 1], none, 511⟩,
  ⟨10, .N (.bsl [.int .i64 0] 2 1 [(0, 1), (1, 1)]), [.l 1, .l 0], none, 1023⟩,
  ⟨11, .calli true (φ 36), [.l 0], none, 2047⟩,
  ⟨12, .N .mv, [.l 0], none, 4095⟩]
def b31 (φ : Nat → Nat) : ACode := .seq (.reg false (r31_0 φ) [(2, 2), (3, 1), (4, 0)]) (.seq (.reg true (r31_1 φ) [(4, 0)]) (.ret))
def f31 (φ : Nat → Nat) : AFn := ⟨2, [0, 1, 2, 3, 4], 17, b31 φ, [.t 4]⟩
end Go.Ai.G
/- Functions of the program (package part) as code of the abstract machine: written by a program of this session out of the elaborated operations. -/
namespace Go.Ai.G
set_option maxRecDepth 100000
set_option linter.unusedVariables false
/-! 60: carcanet/part.New: 0:n 1: 2:p 3:i 4: 5: 6: -/
def r60_0 (φ : Nat → Nat) : List AOper := [
  ⟨0, .N .mv, [.c (.nilp)], none, 0⟩]
def r60_1 (φ : Nat → Nat) : List AOper := [
  ⟨0, .N .mv, [.n 0], none, 0⟩,
  ⟨1, .N .max, [.l 0, .c (.int .i64 0)], none, 0⟩,
  ⟨2, .N .min, [.l 0, .c (.int .i64 1000)], none, 0⟩,
  ⟨3, .N .mv, [.l 0], none, 0⟩]
def r60_2 (φ : Nat → Nat) : List AOper := [
  ⟨0, .N .mv, [.n 0], none, 0⟩,
  ⟨1, .N (.mksl [.int .i64 0] 1 8), [.l 0, .l 0], none, 1⟩,
  ⟨2, .N .mv, [.n 0], none, 0⟩,
  ⟨3, .N (.mksl [.int .i64 0] 1 8), [.l 0, .l 0], none, 4⟩,
  ⟨4, .N .mv, [.n 0], none, 0⟩,
  ⟨5, .N (.build [.nils, .nils, .int .i64 0] [(0, 1), (1, 1), (2, 1)]), [.l 3, .l 1, .l 0], none, 31⟩,
  ⟨6, .N .box, [.l 0], none, 63⟩,
  ⟨7, .N .mv, [.l 0], none, 127⟩]
def r60_3 (φ : Nat → Nat) : List AOper := [
  ⟨0, .N .mv, [.n 0], none, 0⟩,
  ⟨1, .N .mv, [.c (.int .i64 0)], none, 0⟩]
def r60_4 (φ : Nat → Nat) : List AOper := [
  ⟨0, .N (.bin .lss), [.n 5, .n 4], none, 0⟩]
def r60_5 (φ : Nat → Nat) : List AOper := [
  ⟨0, .N .mv, [.n 5], none, 0⟩,
  ⟨1, .N .mv, [.l 0], none, 0⟩]
def r60_6 (φ : Nat → Nat) : List AOper := [
  ⟨0, .N .mv, [.n 2], none, 0⟩,
  ⟨1, .N .nilc, [.l 0], none, 1⟩,
  ⟨2, .N (.fadd 0), [.l 0], none, 3⟩,
  ⟨3, .N .load1, [.l 0], none, 7⟩,
  ⟨4, .N .mv, [.n 3], none, 0⟩,
  ⟨5, .N .mv, [.n 2], none, 0⟩,
  ⟨6, .N .nilc, [.l 0], none, 32⟩,
  ⟨7, .N (.fadd 1), [.l 0], none, 96⟩,
  ⟨8, .N .load1, [.l 0], none, 224⟩,
  ⟨9, .N .mv, [.n 3], none, 0⟩,
  ⟨10, .N .mv, [.n 3], none, 0⟩,
  ⟨11, .N (.idx 1), [.l 7, .l 6], none, 1535⟩,
  ⟨12, .X (.store 1), [.l 0, .l 1], none, 3583⟩,
  ⟨13, .N (.idx 1), [.l 4, .l 3], none, 8191⟩,
  ⟨14, .X (.store 1), [.l 0, .c (.int .i64 1)], none, 16383⟩]
def r60_7 (φ : Nat → Nat) : List AOper := [
  ⟨0, .N (.bin .add), [.n 5, .c (.int .i64 1)], none, 0⟩,
  ⟨1, .N .mv, [.l 0], none, 0⟩]
def l60_8 (φ : Nat → Nat) : ACode := .seq (.reg false (r60_4 φ) [(6, 0)]) (.seq (.cond (.n 6) (.skip) (.exit 0)) (.seq (.block 1 (.seq (.reg false (r60_5 φ) [(3, 0)]) (.reg true (r60_6 φ) []))) (.reg false (r60_7 φ) [(5, 0)])))
def r60_9 (φ : Nat → Nat) : List AOper := [
  ⟨0, .N .mv, [.n 2], none, 0⟩,
  ⟨1, .N .mv, [.l 0], none, 0⟩]
def b60 (φ : Nat → Nat) : ACode := .seq (.reg false (r60_0 φ) [(1, 0)]) (.seq (.reg false (r60_1 φ) [(0, 0)]) (.seq (.reg true (r60_2 φ) [(2, 0)]) (.seq (.seq (.reg false (r60_3 φ) [(4, 1), (5, 0)]) (.block 0 (.loop (l60_8 φ)))) (.seq (.reg false (r60_9 φ) [(1, 0)]) (.ret)))))
def f60 (φ : Nat → Nat) : AFn := ⟨1, [0, 2, 3, 4, 15, 16, 17], 34, b60 φ, [.t 1]⟩
/-! 62: (*carcanet/part.Part).Same: 0:p 1:a 2:b 3: -/
def r62_0 (φ : Nat → Nat) : List AOper := [
  ⟨0, .N .mv, [.c (.bool false)], none, 0⟩]
def r62_1 (φ : Nat → Nat) : List AOper := [
  ⟨0, .N .mv, [.n 0], none, 0⟩,
  ⟨1, .N .mv, [.n 1], none, 0⟩,
  ⟨2, .call (φ 80), [.l 1, .l 0], none, 0⟩,
  ⟨3, .N .mv, [.l 0], none, 0⟩,
  ⟨4, .N .mv, [.n 0], some (.l 0, true), 0⟩,
  ⟨5, .N .mv, [.n 2], some (.l 1, true), 0⟩,
  ⟨6, .call (φ 80), [.l 1, .l 0], some (.l 2, true), 0⟩,
  ⟨7, .N .pick, [.l 3, .l 0, .c (.bool false)], none, 0⟩,
  ⟨8, .N .mv, [.l 0], none, 0⟩,
  ⟨9, .N .mv, [.n 0], some (.l 0, true), 0⟩,
  ⟨10, .N .mv, [.n 1], some (.l 1, true), 0⟩,
  ⟨11, .call (φ 81), [.l 1, .l 0], some (.l 2, true), 0⟩,
  ⟨12, .N .mv, [.n 0], some (.l 3, true), 0⟩,
  ⟨13, .N .mv, [.n 2], some (.l 4, true), 0⟩,
  ⟨14, .call (φ 81), [.l 1, .l 0], some (.l 5, true), 0⟩,
  ⟨15, .N (.bin .eql), [.l 3, .l 0], some (.l 6, true), 0⟩,
  ⟨16, .N .pick, [.l 7, .l 0, .c (.bool false)], none, 0⟩,
  ⟨17, .N .mv, [.l 0], none, 0⟩]
def b62 (φ : Nat → Nat) : ACode := .seq (.reg false (r62_0 φ) [(3, 0)]) (.seq (.reg false (r62_1 φ) [(3, 0)]) (.ret))
def f62 (φ : Nat → Nat) : AFn := ⟨3, [0, 1, 2, 6], 24, b62 φ, [.t 3]⟩
/-! 64: (*carcanet/part.Part).Join: 0:p 1:a 2:b 3: 4:x 5:y 6: 7: 8: -/
def r64_0 (φ : Nat → Nat) : List AOper := [
  ⟨0, .N .mv, [.c (.bool false)], none, 0⟩]
def r64_1 (φ : Nat → Nat) : List AOper := [
  ⟨0, .N .mv, [.n 0], none, 0⟩,
  ⟨1, .N .mv, [.n 1], none, 0⟩,
  ⟨2, .call (φ 80), [.l 1, .l 0], none, 0⟩,
  ⟨3, .N (.un .not), [.l 0], none, 0⟩,
  ⟨4, .N .mv, [.l 0], none, 0⟩,
  ⟨5, .N .mv, [.n 0], some (.l 0, false), 0⟩,
  ⟨6, .N .mv, [.n 2], some (.l 1, false), 0⟩,
  ⟨7, .call (φ 80), [.l 1, .l 0], some (.l 2, false), 0⟩,
  ⟨8, .N (.un .not), [.l 0], some (.l 3, false), 0⟩,
  ⟨9, .N .pick, [.l 4, .c (.bool true), .l 0], none, 0⟩]
def r64_2 (φ : Nat → Nat) : List AOper := [
  ⟨0, .N .mv, [.c (.bool false)], none, 0⟩]
def r64_3 (φ : Nat → Nat) : List AOper := [
  ⟨0, .N .mv, [.n 0], none, 0⟩,
  ⟨1, .N .mv, [.n 1], none, 0⟩,
  ⟨2, .call (φ 81), [.l 1, .l 0], none, 0⟩,
  ⟨3, .N .mv, [.n 0], none, 0⟩,
  ⟨4, .N .mv, [.n 2], none, 0⟩,
  ⟨5, .call (φ 81), [.l 1, .l 0], none, 0⟩,
  ⟨6, .N .mv, [.l 3], none, 0⟩,
  ⟨7, .N .mv, [.l 1], none, 0⟩]
def r64_4 (φ : Nat → Nat) : List AOper := [
  ⟨0, .N .mv, [.n 4], none, 0⟩,
  ⟨1, .N .mv, [.n 5], none, 0⟩,
  ⟨2, .N (.bin .eql), [.l 1, .l 0], none, 0⟩]
def r64_5 (φ : Nat → Nat) : List AOper := [
  ⟨0, .N .mv, [.c (.bool false)], none, 0⟩]
def r64_6 (φ : Nat → Nat) : List AOper := [
  ⟨0, .N .mv, [.n 0], none, 0⟩,
  ⟨1, .N .nilc, [.l 0], none, 1⟩,
  ⟨2, .N (.fadd 1), [.l 0], none, 3⟩,
  ⟨3, .N .load1, [.l 0], none, 7⟩,
  ⟨4, .N .mv, [.n 4], none, 0⟩,
  ⟨5, .N (.idx 1), [.l 1, .l 0], none, 31⟩,
  ⟨6, .N .load1, [.l 0], none, 63⟩,
  ⟨7, .N .mv, [.n 0], none, 0⟩,
  ⟨8, .N .nilc, [.l 0], none, 128⟩,
  ⟨9, .N (.fadd 1), [.l 0], none, 384⟩,
  ⟨10, .N .load1, [.l 0], none, 896⟩,
  ⟨11, .N .mv, [.n 5], none, 0⟩,
  ⟨12, .N (.idx 1), [.l 1, .l 0], none, 3968⟩,
  ⟨13, .N .load1, [.l 0], none, 8064⟩,
  ⟨14, .N (.bin .lss), [.l 7, .l 0], none, 16383⟩]
def r64_7 (φ : Nat → Nat) : List AOper := [
  ⟨0, .N .mv, [.n 5], none, 0⟩,
  ⟨1, .N .mv, [.n 4], none, 0⟩,
  ⟨2, .N .mv, [.l 1], none, 0⟩,
  ⟨3, .N .mv, [.l 1], none, 0⟩]
def r64_8 (φ : Nat → Nat) : List AOper := [
  ⟨0, .N .mv, [.n 0], none, 0⟩,
  ⟨1, .N .nilc, [.l 0], none, 0⟩,
  ⟨2, .N (.fadd 0), [.l 0], none, 0⟩,
  ⟨3, .N .load1, [.l 0], none, 0⟩,
  ⟨4, .N .mv, [.n 5], none, 0⟩,
  ⟨5, .N .mv, [.n 4], none, 0⟩,
  ⟨6, .N (.idx 1), [.l 2, .l 1], none, 0⟩,
  ⟨7, .X (.store 1), [.l 0, .l 1], none, 0⟩]
def r64_9 (φ : Nat → Nat) : List AOper := [
  ⟨0, .N .mv, [.n 0], none, 0⟩,
  ⟨1, .N .nilc, [.l 0], none, 1⟩,
  ⟨2, .N (.fadd 1), [.l 0], none, 3⟩,
  ⟨3, .N .load1, [.l 0], none, 7⟩,
  ⟨4, .N .mv, [.n 4], none, 0⟩,
  ⟨5, .N (.idx 1), [.l 1, .l 0], none, 31⟩,
  ⟨6, .N .load1, [.l 0], none, 63⟩,
  ⟨7, .N .mv, [.n 0], none, 0⟩,
  ⟨8, .N .nilc, [.l 0], none, 128⟩,
  ⟨9, .N (.fadd 1), [.l 0], none, 384⟩,
  ⟨10, .N .load1, [.l 0], none, 896⟩,
  ⟨11, .N .mv, [.n 5], none, 0⟩,
  ⟨12, .N (.idx 1), [.l 1, .l 0], none, 3968⟩,
  ⟨13, .N .load1, [.l 0], none, 8064⟩,
  ⟨14, .N (.bin .add), [.l 7, .l 0], none, 16383⟩,
  ⟨15, .N (.idx 1), [.l 11, .l 10], none, 32767⟩,
  ⟨16, .X (.store 1), [.l 0, .l 1], none, 65535⟩]
def r64_10 (φ : Nat → Nat) : List AOper := [
  ⟨0, .N .mv, [.n 0], none, 0⟩,
  ⟨1, .N .nilc, [.l 0], none, 0⟩,
  ⟨2, .N (.fadd 2), [.l 0], none, 0⟩,
  ⟨3, .N .load1, [.l 0], none, 0⟩,
  ⟨4, .N (.bin .sub), [.l 0, .c (.int .i64 1)], none, 0⟩,
  ⟨5, .N .nilc, [.l 4], none, 0⟩,
  ⟨6, .N (.fadd 2), [.l 0], none, 0⟩,
  ⟨7, .X (.store 1), [.l 0, .l 2], none, 0⟩]
def r64_11 (φ : Nat → Nat) : List AOper := [
  ⟨0, .N .mv, [.c (.bool true)], none, 0⟩]
def b64 (φ : Nat → Nat) : ACode := .seq (.reg false (r64_0 φ) [(3, 0)]) (.seq (.seq (.reg false (r64_1 φ) [(6, 0)]) (.cond (.n 6) (.seq (.reg false (r64_2 φ) [(3, 0)]) (.ret)) (.skip))) (.seq (.reg false (r64_3 φ) [(4, 1), (5, 0)]) (.seq (.seq (.reg false (r64_4 φ) [(7, 0)]) (.cond (.n 7) (.seq (.reg false (r64_5 φ) [(3, 0)]) (.ret)) (.skip))) (.seq (.seq (.reg true (r64_6 φ) [(8, 0)]) (.cond (.n 8) (.reg false (r64_7 φ) [(4, 1), (5, 0)]) (.skip))) (.seq (.reg false (r64_8 φ) []) (.seq (.reg true (r64_9 φ) []) (.seq (.reg false (r64_10 φ) []) (.seq (.reg false (r64_11 φ) [(3, 0)]) (.ret)))))))))
def f64 (φ : Nat → Nat) : AFn := ⟨3, [0, 1, 2, 6, 7, 8, 18, 27, 42], 75, b64 φ, [.t 3]⟩
/-! 66: (*carcanet/part.Part).Count: 0:p 1: -/
def r66_0 (φ : Nat → Nat) : List AOper := [
  ⟨0, .N .mv, [.c (.int .i64 0)], none, 0⟩]
def r66_1 (φ : Nat → Nat) : List AOper := [
  ⟨0, .N .mv, [.n 0], none, 0⟩,
  ⟨1, .N .nilc, [.l 0], none, 0⟩,
  ⟨2, .N (.fadd 2), [.l 0], none, 0⟩,
  ⟨3, .N .load1, [.l 0], none, 0⟩,
  ⟨4, .N .mv, [.l 0], none, 0⟩]
def b66 (φ : Nat → Nat) : ACode := .seq (.reg false (r66_0 φ) [(1, 0)]) (.seq (.reg false (r66_1 φ) [(1, 0)]) (.ret))
def f66 (φ : Nat → Nat) : AFn := ⟨1, [0, 2], 7, b66 φ, [.t 1]⟩
/-! 72: carcanet/part.Of: 0:g 1:g 2: 3:p 4:x 5: 6: 7: 8: 9: -/
def r72_0 (φ : Nat → Nat) : List AOper := [
  ⟨0, .N .box, [.n 0], none, 0⟩,
  ⟨1, .N .mv, [.c (.nils)], none, 0⟩]
def r72_1 (φ : Nat → Nat) : List AOper := [
  ⟨0, .N (.loadN 2), [.n 1], none, 0⟩,
  ⟨1, .calli true (φ 4), [.l 0], none, 0⟩,
  ⟨2, .N (.un .not), [.l 0], none, 0⟩]
def r72_2 (φ : Nat → Nat) : List AOper := [
  ⟨0, .N .mv, [.c (.nils)], none, 0⟩]
def r72_3 (φ : Nat → Nat) : List AOper := [
  ⟨0, .N (.fadd 0), [.n 1], none, 0⟩,
  ⟨1, .N .load1, [.l 0], none, 0⟩,
  ⟨2, .call (φ 60), [.l 0], none, 0⟩,
  ⟨3, .N .mv, [.l 0], none, 0⟩]
def r72_4 (φ : Nat → Nat) : List AOper := [
  ⟨0, .N (.fadd 1), [.n 1], none, 0⟩,
  ⟨1, .N .load1, [.l 0], none, 0⟩,
  ⟨2, .N .lenS, [.l 0], none, 0⟩,
  ⟨3, .N .mv, [.c (.int .i64 0)], none, 0⟩]
def r72_5 (φ : Nat → Nat) : List AOper := [
  ⟨0, .N (.bin .lss), [.n 8, .n 7], none, 0⟩]
def r72_6 (φ : Nat → Nat) : List AOper := [
  ⟨0, .N (.idx 2), [.n 6, .n 8], none, 0⟩,
  ⟨1, .N (.loadN 2), [.l 0], none, 0⟩,
  ⟨2, .N (.alloc [.int .i64 0, .int .i64 0]), [], none, 0⟩,
  ⟨3, .X (.store 2), [.l 0, .l 1], none, 0⟩]
def r72_7 (φ : Nat → Nat) : List AOper := [
  ⟨0, .N .mv, [.n 3], none, 0⟩,
  ⟨1, .N (.fadd 0), [.n 4], none, 0⟩,
  ⟨2, .N .load1, [.l 0], none, 0⟩,
  ⟨3, .N (.fadd 1), [.n 4], none, 0⟩,
  ⟨4, .N .load1, [.l 0], none, 0⟩,
  ⟨5, .call (φ 64), [.l 4, .l 2, .l 0], none, 0⟩]
def r72_8 (φ : Nat → Nat) : List AOper := [
  ⟨0, .N (.bin .add), [.n 8, .c (.int .i64 1)], none, 0⟩,
  ⟨1, .N .mv, [.l 0], none, 0⟩]
def l72_9 (φ : Nat → Nat) : ACode := .seq (.reg false (r72_5 φ) [(9, 0)]) (.seq (.cond (.n 9) (.skip) (.exit 0)) (.seq (.block 1 (.seq (.reg false (r72_6 φ) [(4, 1)]) (.reg false (r72_7 φ) []))) (.reg false (r72_8 φ) [(8, 0)])))
def r72_10 (φ : Nat → Nat) : List AOper := [
  ⟨0, .N .mv, [.n 3], none, 0⟩,
  ⟨1, .call (φ 68), [.l 0], none, 0⟩,
  ⟨2, .N .mv, [.l 0], none, 0⟩]
def b72 (φ : Nat → Nat) : ACode := .seq (.reg false (r72_0 φ) [(1, 1), (2, 0)]) (.seq (.seq (.reg false (r72_1 φ) [(5, 0)]) (.cond (.n 5) (.seq (.reg false (r72_2 φ) [(2, 0)]) (.ret)) (.skip))) (.seq (.reg false (r72_3 φ) [(3, 0)]) (.seq (.seq (.reg false (r72_4 φ) [(6, 2), (7, 1), (8, 0)]) (.block 0 (.loop (l72_9 φ)))) (.seq (.reg false (r72_10 φ) [(2, 0)]) (.ret)))))
def f72 (φ : Nat → Nat) : AFn := ⟨1, [0, 1, 2, 3, 5, 8, 13, 14, 15, 16], 28, b72 φ, [.t 2]⟩
/-! 80: (*carcanet/part.Part).is: 0:p 1:a 2: -/
def r80_0 (φ : Nat → Nat) : List AOper := [
  ⟨0, .N .mv, [.c (.bool false)], none, 0⟩]
def r80_1 (φ : Nat → Nat) : List AOper := [
  ⟨0, .N .mv, [.n 1], none, 0⟩,
  ⟨1, .N (.bin .geq), [.l 0, .c (.int .i64 0)], none, 0⟩,
  ⟨2, .N .mv, [.l 0], none, 0⟩,
  ⟨3, .N .mv, [.n 1], some (.l 0, true), 0⟩,
  ⟨4, .N .mv, [.n 0], some (.l 1, true), 0⟩,
  ⟨5, .N .nilc, [.l 0], some (.l 2, true), 0⟩,
  ⟨6, .N (.fadd 0), [.l 0], some (.l 3, true), 0⟩,
  ⟨7, .N .load1, [.l 0], some (.l 4, true), 0⟩,
  ⟨8, .N .lenS, [.l 0], some (.l 5, true), 0⟩,
  ⟨9, .N (.bin .lss), [.l 5, .l 0], some (.l 6, true), 0⟩,
  ⟨10, .N .pick, [.l 7, .l 0, .c (.bool false)], none, 0⟩,
  ⟨11, .N .mv, [.l 0], none, 0⟩]
def b80 (φ : Nat → Nat) : ACode := .seq (.reg false (r80_0 φ) [(2, 0)]) (.seq (.reg false (r80_1 φ) [(2, 0)]) (.ret))
def f80 (φ : Nat → Nat) : AFn := ⟨2, [0, 1, 4], 16, b80 φ, [.t 2]⟩
/-! 81: (*carcanet/part.Part).top: 0:p 1:a 2: 3: -/
def r81_0 (φ : Nat → Nat) : List AOper := [
  ⟨0, .N .mv, [.c (.int .i64 0)], none, 0⟩]
def r81_1 (φ : Nat → Nat) : List AOper := [
  ⟨0, .N .mv, [.n 0], none, 0⟩,
  ⟨1, .N .nilc, [.l 0], none, 0⟩,
  ⟨2, .N (.fadd 0), [.l 0], none, 0⟩,
  ⟨3, .N .load1, [.l 0], none, 0⟩,
  ⟨4, .N .mv, [.n 1], none, 0⟩,
  ⟨5, .N (.idx 1), [.l 1, .l 0], none, 0⟩,
  ⟨6, .N .load1, [.l 0], none, 0⟩,
  ⟨7, .N .mv, [.n 1], none, 0⟩,
  ⟨8, .N (.bin .neq), [.l 1, .l 0], none, 0⟩]
def r81_2 (φ : Nat → Nat) : List AOper := [
  ⟨0, .N .mv, [.n 0], none, 0⟩,
  ⟨1, .N .nilc, [.l 0], none, 1⟩,
  ⟨2, .N (.fadd 0), [.l 0], none, 3⟩,
  ⟨3, .N .load1, [.l 0], none, 7⟩,
  ⟨4, .N .mv, [.n 1], none, 0⟩,
  ⟨5, .N .mv, [.n 0], none, 0⟩,
  ⟨6, .N .nilc, [.l 0], none, 32⟩,
  ⟨7, .N (.fadd 0), [.l 0], none, 96⟩,
  ⟨8, .N .load1, [.l 0], none, 224⟩,
  ⟨9, .N .mv, [.n 0], none, 0⟩,
  ⟨10, .N .nilc, [.l 0], none, 512⟩,
  ⟨11, .N (.fadd 0), [.l 0], none, 1536⟩,
  ⟨12, .N .load1, [.l 0], none, 3584⟩,
  ⟨13, .N .mv, [.n 1], none, 0⟩,
  ⟨14, .N (.idx 1), [.l 1, .l 0], none, 15872⟩,
  ⟨15, .N .load1, [.l 0], none, 32256⟩,
  ⟨16, .N (.idx 1), [.l 7, .l 0], none, 65504⟩,
  ⟨17, .N .load1, [.l 0], none, 131040⟩,
  ⟨18, .N (.idx 1), [.l 14, .l 13], none, 262143⟩,
  ⟨19, .X (.store 1), [.l 0, .l 1], none, 524287⟩]
def r81_3 (φ : Nat → Nat) : List AOper := [
  ⟨0, .N .mv, [.n 0], none, 0⟩,
  ⟨1, .N .nilc, [.l 0], none, 0⟩,
  ⟨2, .N (.fadd 0), [.l 0], none, 0⟩,
  ⟨3, .N .load1, [.l 0], none, 0⟩,
  ⟨4, .N .mv, [.n 1], none, 0⟩,
  ⟨5, .N (.idx 1), [.l 1, .l 0], none, 0⟩,
  ⟨6, .N .load1, [.l 0], none, 0⟩,
  ⟨7, .N .mv, [.l 0], none, 0⟩]
def l81_4 (φ : Nat → Nat) : ACode := .seq (.seq (.reg false (r81_1 φ) [(3, 0)]) (.cond (.n 3) (.skip) (.exit 0))) (.block 1 (.seq (.reg true (r81_2 φ) []) (.reg false (r81_3 φ) [(1, 0)])))
def r81_5 (φ : Nat → Nat) : List AOper := [
  ⟨0, .N .mv, [.n 1], none, 0⟩,
  ⟨1, .N .mv, [.l 0], none, 0⟩]
def b81 (φ : Nat → Nat) : ACode := .seq (.reg false (r81_0 φ) [(2, 0)]) (.seq (.block 0 (.loop (l81_4 φ))) (.seq (.reg false (r81_5 φ) [(2, 0)]) (.ret)))
def f81 (φ : Nat → Nat) : AFn := ⟨2, [0, 1, 4, 13], 41, b81 φ, [.t 2]⟩
/-! 83: (*carcanet/part.Part).Classes$1: 0:x 1:y 2: -/
def r83_0 (φ : Nat → Nat) : List AOper := [
  ⟨0, .N .mv, [.c (.int .i64 0)], none, 0⟩]
def r83_1 (φ : Nat → Nat) : List AOper := [
  ⟨0, .N .mv, [.n 0], none, 0⟩,
  ⟨1, .N (.idx 1), [.l 0, .c (.int .i64 0)], none, 1⟩,
  ⟨2, .N .load1, [.l 0], none, 3⟩,
  ⟨3, .N .mv, [.n 1], none, 0⟩,
  ⟨4, .N (.idx 1), [.l 0, .c (.int .i64 0)], none, 8⟩,
  ⟨5, .N .load1, [.l 0], none, 24⟩,
  ⟨6, .N (.bin .sub), [.l 3, .l 0], none, 63⟩,
  ⟨7, .N .mv, [.l 0], none, 127⟩]
def b83 (φ : Nat → Nat) : ACode := .seq (.reg false (r83_0 φ) [(2, 0)]) (.seq (.reg true (r83_1 φ) [(2, 0)]) (.ret))
def f83 (φ : Nat → Nat) : AFn := ⟨2, [0, 1, 4], 12, b83 φ, [.t 2]⟩
end Go.Ai.G
/- Functions of the program (package slices) as code of the abstract machine: written by a program of this session out of the elaborated operations. -/
namespace Go.Ai.G
set_option maxRecDepth 100000
set_option linter.unusedVariables false
/-! 28: slices.Compact[[]carcanet/api.Edge,carcanet/api.Edge]: 0:s 1: 2:k 3:s2 4:k2 5: 6: 7: 8: 9: -/
def r28_0 (φ : Nat → Nat) : List AOper := [
  ⟨0, .N .mv, [.c (.nils)], none, 0⟩]
def r28_1 (φ : Nat → Nat) : List AOper := [
  ⟨0, .N .mv, [.n 0], none, 0⟩,
  ⟨1, .N .lenS, [.l 0], none, 0⟩,
  ⟨2, .N (.bin .lss), [.l 0, .c (.int .i64 2)], none, 0⟩]
def r28_2 (φ : Nat → Nat) : List AOper := [
  ⟨0, .N .mv, [.n 0], none, 0⟩,
  ⟨1, .N .mv, [.l 0], none, 0⟩]
def r28_3 (φ : Nat → Nat) : List AOper := [
  ⟨0, .N .mv, [.c (.int .i64 1)], none, 0⟩]
def r28_4 (φ : Nat → Nat) : List AOper := [
  ⟨0, .N .mv, [.n 2], none, 0⟩,
  ⟨1, .N .mv, [.n 0], none, 0⟩,
  ⟨2, .N .lenS, [.l 0], none, 0⟩,
  ⟨3, .N (.bin .lss), [.l 2, .l 0], none, 0⟩]
def r28_5 (φ : Nat → Nat) : List AOper := [
  ⟨0, .N .mv, [.n 0], none, 0⟩,
  ⟨1, .N .mv, [.n 2], none, 0⟩,
  ⟨2, .N (.idx 2), [.l 1, .l 0], none, 3⟩,
  ⟨3, .N (.loadN 2), [.l 0], none, 7⟩,
  ⟨4, .N .mv, [.n 0], none, 0⟩,
  ⟨5, .N .mv, [.n 2], none, 0⟩,
  ⟨6, .N (.bin .sub), [.l 0, .c (.int .i64 1)], none, 32⟩,
  ⟨7, .N (.idx 2), [.l 2, .l 0], none, 112⟩,
  ⟨8, .N (.loadN 2), [.l 0], none, 240⟩,
  ⟨9, .N (.eqS [1, 1] false), [.l 5, .l 0], none, 511⟩]
def r28_6 (φ : Nat → Nat) : List AOper := [
  ⟨0, .N .mv, [.n 0], none, 0⟩,
  ⟨1, .N .mv, [.n 2], none, 0⟩,
  ⟨2, .N (.slc 2 true false false), [.l 1, .l 0], none, 0⟩,
  ⟨3, .N .mv, [.l 0], none, 0⟩]
def r28_7 (φ : Nat → Nat) : List AOper := [
  ⟨0, .N .mv, [.c (.int .i64 1)], none, 0⟩]
def r28_8 (φ : Nat → Nat) : List AOper := [
  ⟨0, .N .mv, [.n 4], none, 0⟩,
  ⟨1, .N .mv, [.n 3], none, 0⟩,
  ⟨2, .N .lenS, [.l 0], none, 0⟩,
  ⟨3, .N (.bin .lss), [.l 2, .l 0], none, 0⟩]
def r28_9 (φ : Nat → Nat) : List AOper := [
  ⟨0, .N .mv, [.n 3], none, 0⟩,
  ⟨1, .N .mv, [.n 4], none, 0⟩,
  ⟨2, .N (.idx 2), [.l 1, .l 0], none, 3⟩,
  ⟨3, .N (.loadN 2), [.l 0], none, 7⟩,
  ⟨4, .N .mv, [.n 3], none, 0⟩,
  ⟨5, .N .mv, [.n 4], none, 0⟩,
  ⟨6, .N (.bin .sub), [.l 0, .c (.int .i64 1)], none, 32⟩,
  ⟨7, .N (.idx 2), [.l 2, .l 0], none, 112⟩,
  ⟨8, .N (.loadN 2), [.l 0], none, 240⟩,
  ⟨9, .N (.eqS [1, 1] true), [.l 5, .l 0], none, 511⟩]
def r28_10 (φ : Nat → Nat) : List AOper := [
  ⟨0, .N .mv, [.n 0], none, 0⟩,
  ⟨1, .N .mv, [.n 2], none, 0⟩,
  ⟨2, .N .mv, [.n 3], none, 0⟩,
  ⟨3, .N .mv, [.n 4], none, 0⟩,
  ⟨4, .N (.idx 2), [.l 1, .l 0], none, 0⟩,
  ⟨5, .N (.loadN 2), [.l 0], none, 0⟩,
  ⟨6, .N (.idx 2), [.l 5, .l 4], none, 0⟩,
  ⟨7, .X (.store 2), [.l 0, .l 1], none, 0⟩]
def r28_11 (φ : Nat → Nat) : List AOper := [
  ⟨0, .N .mv, [.n 2], none, 0⟩,
  ⟨1, .N (.bin .add), [.l 0, .c (.int .i64 1)], none, 0⟩,
  ⟨2, .N .mv, [.l 0], none, 0⟩]
def r28_12 (φ : Nat → Nat) : List AOper := [
  ⟨0, .N .mv, [.n 4], none, 0⟩,
  ⟨1, .N (.bin .add), [.l 0, .c (.int .i64 1)], none, 0⟩,
  ⟨2, .N .mv, [.l 0], none, 0⟩]
def l28_13 (φ : Nat → Nat) : ACode := .seq (.seq (.reg false (r28_8 φ) [(8, 0)]) (.cond (.n 8) (.skip) (.exit 2))) (.seq (.block 3 (.seq (.reg true (r28_9 φ) [(9, 0)]) (.cond (.n 9) (.seq (.reg false (r28_10 φ) []) (.reg false (r28_11 φ) [(2, 0)])) (.skip)))) (.reg false (r28_12 φ) [(4, 0)]))
def r28_14 (φ : Nat → Nat) : List AOper := [
  ⟨0, .N .mv, [.n 0], none, 0⟩,
  ⟨1, .N .mv, [.n 2], none, 0⟩,
  ⟨2, .N (.slc 2 true false false), [.l 1, .l 0], none, 0⟩,
  ⟨3, .X (.clear 2 [.int .i64 0, .int .i64 0]), [.l 0], none, 0⟩]
def r28_15 (φ : Nat → Nat) : List AOper := [
  ⟨0, .N .mv, [.n 0], none, 0⟩,
  ⟨1, .N .mv, [.n 2], none, 0⟩,
  ⟨2, .N (.slc 2 false true false), [.l 1, .l 0], none, 0⟩,
  ⟨3, .N .mv, [.l 0], none, 0⟩]
def r28_16 (φ : Nat → Nat) : List AOper := [
  ⟨0, .N .mv, [.n 2], none, 0⟩,
  ⟨1, .N (.bin .add), [.l 0, .c (.int .i64 1)], none, 0⟩,
  ⟨2, .N .mv, [.l 0], none, 0⟩]
def l28_17 (φ : Nat → Nat) : ACode := .seq (.seq (.reg false (r28_4 φ) [(6, 0)]) (.cond (.n 6) (.skip) (.exit 0))) (.seq (.block 1 (.seq (.reg true (r28_5 φ) [(7, 0)]) (.cond (.n 7) (.seq (.reg false (r28_6 φ) [(3, 0)]) (.seq (.seq (.reg false (r28_7 φ) [(4, 0)]) (.block 2 (.loop (l28_13 φ)))) (.seq (.reg false (r28_14 φ) []) (.seq (.reg false (r28_15 φ) [(1, 0)]) (.ret))))) (.skip)))) (.reg false (r28_16 φ) [(2, 0)]))
def r28_18 (φ : Nat → Nat) : List AOper := [
  ⟨0, .N .mv, [.n 0], none, 0⟩,
  ⟨1, .N .mv, [.l 0], none, 0⟩]
def b28 (φ : Nat → Nat) : ACode := .seq (.reg false (r28_0 φ) [(1, 0)]) (.seq (.seq (.reg false (r28_1 φ) [(5, 0)]) (.cond (.n 5) (.seq (.reg false (r28_2 φ) [(1, 0)]) (.ret)) (.skip))) (.seq (.seq (.reg false (r28_3 φ) [(2, 0)]) (.block 0 (.loop (l28_17 φ)))) (.seq (.reg false (r28_18 φ) [(1, 0)]) (.ret))))
def f28 (φ : Nat → Nat) : AFn := ⟨1, [0, 2, 3, 4, 5, 8, 13, 25, 32, 44], 61, b28 φ, [.t 1]⟩
/-! 32: slices.Clone[[]carcanet/api.Edge,carcanet/api.Edge]: 0:s 1: 2: -/
def r32_0 (φ : Nat → Nat) : List AOper := [
  ⟨0, .N .mv, [.c (.nils)], none, 0⟩]
def r32_1 (φ : Nat → Nat) : List AOper := [
  ⟨0, .N .mv, [.n 0], none, 0⟩,
  ⟨1, .N (.eqN 1 false), [.l 0, .c (.nils)], none, 0⟩]
def r32_2 (φ : Nat → Nat) : List AOper := [
  ⟨0, .N .mv, [.c (.nils)], none, 0⟩]
def r32_3 (φ : Nat → Nat) : List AOper := [
  ⟨0, .N (.bsl [.int .i64 0, .int .i64 0] 0 2 []), [], none, 0⟩,
  ⟨1, .N .mv, [.n 0], none, 0⟩,
  ⟨2, .X (.app 2 16), [.l 1, .l 0], none, 0⟩,
  ⟨3, .N .mv, [.l 0], none, 0⟩]
def b32 (φ : Nat → Nat) : ACode := .seq (.reg false (r32_0 φ) [(1, 0)]) (.seq (.seq (.reg false (r32_1 φ) [(2, 0)]) (.cond (.n 2) (.seq (.reg false (r32_2 φ) [(1, 0)]) (.ret)) (.skip))) (.seq (.reg false (r32_3 φ) [(1, 0)]) (.ret)))
def f32 (φ : Nat → Nat) : AFn := ⟨1, [0, 2, 4], 8, b32 φ, [.t 1]⟩
/-! 33: slices.Index[[]carcanet/api.Edge,carcanet/api.Edge]: 0:s 1:v 2:v 3: 4:i 5: 6: 7: 8: -/
def r33_0 (φ : Nat → Nat) : List AOper := [
  ⟨0, .N .box, [.n 1], none, 0⟩,
  ⟨1, .N .mv, [.c (.int .i64 0)], none, 0⟩]
def r33_1 (φ : Nat → Nat) : List AOper := [
  ⟨0, .N .mv, [.n 0], none, 0⟩,
  ⟨1, .N .lenS, [.l 0], none, 0⟩,
  ⟨2, .N .mv, [.c (.int .i64 0)], none, 0⟩]
def r33_2 (φ : Nat → Nat) : List AOper := [
  ⟨0, .N (.bin .lss), [.n 6, .n 5], none, 0⟩]
def r33_3 (φ : Nat → Nat) : List AOper := [
  ⟨0, .N .mv, [.n 6], none, 0⟩,
  ⟨1, .N .mv, [.l 0], none, 0⟩]
def r33_4 (φ : Nat → Nat) : List AOper := [
  ⟨0, .N (.loadN 2), [.n 2], none, 0⟩,
  ⟨1, .N .mv, [.n 0], none, 0⟩,
  ⟨2, .N .mv, [.n 4], none, 0⟩,
  ⟨3, .N (.idx 2), [.l 1, .l 0], none, 6⟩,
  ⟨4, .N (.loadN 2), [.l 0], none, 14⟩,
  ⟨5, .N (.eqS [1, 1] false), [.l 4, .l 0], none, 31⟩]
def r33_5 (φ : Nat → Nat) : List AOper := [
  ⟨0, .N .mv, [.n 4], none, 0⟩,
  ⟨1, .N .mv, [.l 0], none, 0⟩]
def r33_6 (φ : Nat → Nat) : List AOper := [
  ⟨0, .N (.bin .add), [.n 6, .c (.int .i64 1)], none, 0⟩,
  ⟨1, .N .mv, [.l 0], none, 0⟩]
def l33_7 (φ : Nat → Nat) : ACode := .seq (.reg false (r33_2 φ) [(7, 0)]) (.seq (.cond (.n 7) (.skip) (.exit 0)) (.seq (.block 1 (.seq (.reg false (r33_3 φ) [(4, 0)]) (.seq (.reg true (r33_4 φ) [(8, 0)]) (.cond (.n 8) (.seq (.reg false (r33_5 φ) [(3, 0)]) (.ret)) (.skip))))) (.reg false (r33_6 φ) [(6, 0)])))
def r33_8 (φ : Nat → Nat) : List AOper := [
  ⟨0, .N .mv, [.c (.int .i64 (-1))], none, 0⟩]
def b33 (φ : Nat → Nat) : ACode := .seq (.reg false (r33_0 φ) [(2, 1), (3, 0)]) (.seq (.seq (.reg false (r33_1 φ) [(5, 1), (6, 0)]) (.block 0 (.loop (l33_7 φ)))) (.seq (.reg false (r33_8 φ) [(3, 0)]) (.ret)))
def f33 (φ : Nat → Nat) : AFn := ⟨2, [0, 1, 3, 4, 5, 7, 8, 9, 16], 19, b33 φ, [.t 3]⟩
/-! 34: slices.Delete[[]carcanet/api.Edge,carcanet/api.Edge]: 0:s 1:i 2:j 3: 4:oldlen 5: -/
def r34_0 (φ : Nat → Nat) : List AOper := [
  ⟨0, .N .mv, [.c (.nils)], none, 0⟩]
def r34_1 (φ : Nat → Nat) : List AOper := [
  ⟨0, .N .mv, [.n 0], none, 0⟩,
  ⟨1, .N .mv, [.n 1], none, 0⟩,
  ⟨2, .N .mv, [.n 2], none, 0⟩,
  ⟨3, .N .mv, [.n 0], none, 0⟩,
  ⟨4, .N .lenS, [.l 0], none, 0⟩,
  ⟨5, .N (.slc 2 true true true), [.l 4, .l 3, .l 2, .l 0], none, 0⟩]
def r34_2 (φ : Nat → Nat) : List AOper := [
  ⟨0, .N .mv, [.n 1], none, 0⟩,
  ⟨1, .N .mv, [.n 2], none, 0⟩,
  ⟨2, .N (.bin .eql), [.l 1, .l 0], none, 0⟩]
def r34_3 (φ : Nat → Nat) : List AOper := [
  ⟨0, .N .mv, [.n 0], none, 0⟩,
  ⟨1, .N .mv, [.l 0], none, 0⟩]
def r34_4 (φ : Nat → Nat) : List AOper := [
  ⟨0, .N .mv, [.n 0], none, 0⟩,
  ⟨1, .N .lenS, [.l 0], none, 0⟩,
  ⟨2, .N .mv, [.l 0], none, 0⟩]
def r34_5 (φ : Nat → Nat) : List AOper := [
  ⟨0, .N .mv, [.n 0], none, 0⟩,
  ⟨1, .N .mv, [.n 1], none, 0⟩,
  ⟨2, .N (.slc 2 false true false), [.l 1, .l 0], none, 3⟩,
  ⟨3, .N .mv, [.n 0], none, 0⟩,
  ⟨4, .N .mv, [.n 2], none, 0⟩,
  ⟨5, .N (.slc 2 true false false), [.l 1, .l 0], none, 24⟩,
  ⟨6, .X (.app 2 16), [.l 3, .l 0], none, 63⟩,
  ⟨7, .N .mv, [.l 0], none, 127⟩]
def r34_6 (φ : Nat → Nat) : List AOper := [
  ⟨0, .N .mv, [.n 0], none, 0⟩,
  ⟨1, .N .mv, [.n 0], none, 0⟩,
  ⟨2, .N .lenS, [.l 0], none, 0⟩,
  ⟨3, .N .mv, [.n 4], none, 0⟩,
  ⟨4, .N (.slc 2 true true false), [.l 3, .l 1, .l 0], none, 0⟩,
  ⟨5, .X (.clear 2 [.int .i64 0, .int .i64 0]), [.l 0], none, 0⟩]
def r34_7 (φ : Nat → Nat) : List AOper := [
  ⟨0, .N .mv, [.n 0], none, 0⟩,
  ⟨1, .N .mv, [.l 0], none, 0⟩]
def b34 (φ : Nat → Nat) : ACode := .seq (.reg false (r34_0 φ) [(3, 0)]) (.seq (.reg false (r34_1 φ) []) (.seq (.seq (.reg false (r34_2 φ) [(5, 0)]) (.cond (.n 5) (.seq (.reg false (r34_3 φ) [(3, 0)]) (.ret)) (.skip))) (.seq (.reg false (r34_4 φ) [(4, 0)]) (.seq (.reg true (r34_5 φ) [(0, 0)]) (.seq (.reg false (r34_6 φ) []) (.seq (.reg false (r34_7 φ) [(3, 0)]) (.ret)))))))
def f34 (φ : Nat → Nat) : AFn := ⟨3, [0, 1, 2, 6, 7, 16], 33, b34 φ, [.t 3]⟩
end Go.Ai.G
/- How one proves what the abstract machine's code does. -/
namespace Go.Ai
set_option linter.unusedVariables false
set_option linter.unusedSimpArgs false

/-! ### More rounds, the same answer -/
def Caller.le (c d : Caller) : Prop := ∀ f args H out, c f args H = some out → d f args H = some out
theorem op_mono {c d : Caller} (h : c.le d) {o : AOp} {vs : List AV} {H : Heap} {out : Out AV} (hs : opStep c o vs H = some out) : opStep d o vs H = some out := by
  cases o <;> simp only [opStep] at hs ⊢ <;> try exact hs
  · exact h _ _ _ _ hs
  · split at hs
    · cases hs
    · rename_i vs' H' hv
      split at hs
      · rename_i r H1 hc
        rw [h _ _ _ _ hc]; exact hs
      · cases hs
  · split at hs
    · exact h _ _ _ _ hs
    · cases hs
theorem ops_mono {c d : Caller} (h : c.le d) {env : List AV} : ∀ (l : List AOper) (loc : List AV) (H : Heap) (out : Out (List AV)), runOps c env l loc H = some out → runOps d env l loc H = some out
  | [], loc, H, out, hs => hs
  | o :: l, loc, H, out, hs => by
    simp only [runOps] at hs ⊢
    cases hg : guardOk env loc o.grd with
    | none => rw [hg] at hs; cases hs
    | some b =>
      rw [hg] at hs
      cases b with
      | false => exact ops_mono h l _ _ _ hs
      | true =>
        simp only at hs ⊢
        cases hop : opStep c o.o (o.args.map (evalOpd env loc)) H with
        | none => rw [hop] at hs; cases hs
        | some r =>
          rw [hop] at hs
          rw [op_mono h hop]
          cases r with
          | ok v H1 => exact ops_mono h l _ _ _ hs
          | pan v H1 => exact hs
theorem draw_mono {c d : Caller} (h : c.le d) {env : List AV} : ∀ (l : List AOper) (loc : List AV) (ts bs : List (Option Nat)) (H : Heap) (out : List AV × Heap), runDraw c env l loc ts bs H = some out → runDraw d env l loc ts bs H = some out
  | [], loc, ts, bs, H, out, hs => hs
  | o :: l, loc, ts, bs, H, out, hs => by
    simp only [runDraw] at hs ⊢
    cases hg : guardOk env loc o.grd with
    | none => rw [hg] at hs; cases hs
    | some b =>
      rw [hg] at hs
      cases b with
      | false => exact draw_mono h l _ _ _ _ _ hs
      | true =>
        simp only at hs ⊢
        have xc : (match opStep c o.o (o.args.map (evalOpd env loc)) (hide (gather o.bef bs) H) with
            | some (.ok v H1) => if (gather o.bef ts).all (fun b => obEq H1[b]? (hide (gather o.bef bs) H)[b]?) then runDraw c env l (v :: loc) (none :: ts) (none :: bs) (unhide (gather o.bef bs) H H1) else none
            | _ => none) = some out → (match opStep d o.o (o.args.map (evalOpd env loc)) (hide (gather o.bef bs) H) with
            | some (.ok v H1) => if (gather o.bef ts).all (fun b => obEq H1[b]? (hide (gather o.bef bs) H)[b]?) then runDraw d env l (v :: loc) (none :: ts) (none :: bs) (unhide (gather o.bef bs) H H1) else none
            | _ => none) = some out := by
          intro hs
          cases hop : opStep c o.o (o.args.map (evalOpd env loc)) (hide (gather o.bef bs) H) with
          | none => rw [hop] at hs; cases hs
          | some r =>
            rw [hop] at hs
            rw [op_mono h hop]
            cases r with
            | pan v H1 => cases hs
            | ok v H1 =>
              simp only at hs ⊢
              split at hs
              · rename_i hk; rw [if_pos hk]; exact draw_mono h l _ _ _ _ _ hs
              · cases hs
        cases hao : o.o with
        | N no =>
          rw [hao] at hs
          simp only at hs ⊢
          split at hs
          · exact draw_mono h l _ _ _ _ _ hs
          · exact draw_mono h l _ _ _ _ _ hs
          · cases hs
        | X xo => rw [hao] at hs xc; exact xc hs
        | call f => rw [hao] at hs xc; exact xc hs
        | calli tmp f => rw [hao] at hs xc; exact xc hs
        | callv => rw [hao] at hs xc; exact xc hs
theorem iter_mono {f g : St → Option (Ex × St)} (h : ∀ st r, f st = some r → g st = some r) : ∀ (n m : Nat) (st : St) (r : Ex × St), n ≤ m → iter f n st = some r → iter g m st = some r
  | 0, m, st, r, _, hs => by simp [iter] at hs
  | n + 1, 0, st, r, hle, hs => by omega
  | n + 1, m + 1, st, r, hle, hs => by
    simp only [iter] at hs ⊢
    cases hx : f st with
    | none => rw [hx] at hs; cases hs
    | some x =>
      obtain ⟨e, s⟩ := x
      rw [hx] at hs
      rw [h _ _ hx]
      cases e with
      | norm => exact iter_mono h n m s r (by omega) hs
      | ret => exact hs
      | exit id => exact hs
      | pan v => exact hs
theorem code_mono {c d : Caller} (h : c.le d) {k m : Nat} (hkm : k ≤ m) : ∀ (ac : ACode) (st : St) (r : Ex × St), runC c k ac st = some r → runC d m ac st = some r := by
  intro ac
  induction ac with
  | skip | lab | ret | exit => intro st r hs; simpa only [runC] using hs
  | reg draw l outs =>
    intro st r hs
    cases draw with
    | false =>
      simp only [runC] at hs ⊢
      cases hr : runOps c st.1 l [] st.2 with
      | none => rw [hr] at hs; cases hs
      | some out => rw [hr] at hs; rw [ops_mono h l _ _ _ hr]; exact hs
    | true =>
      simp only [runC] at hs ⊢
      cases hr : runDraw c st.1 l [] [] [] st.2 with
      | none => rw [hr] at hs; cases hs
      | some out => rw [hr] at hs; rw [draw_mono h l _ _ _ _ _ hr]; exact hs
  | seq x y ihx ihy =>
    intro st r hs
    simp only [runC] at hs ⊢
    cases hx : runC c k x st with
    | none => rw [hx] at hs; cases hs
    | some q =>
      obtain ⟨e, s⟩ := q
      rw [hx] at hs
      rw [ihx _ _ hx]
      cases e with
      | norm => exact ihy _ _ hs
      | ret => exact hs
      | exit id => exact hs
      | pan v => exact hs
  | cond cn t f iht ihf =>
    intro st r hs
    simp only [runC] at hs ⊢
    split at hs
    · rename_i hb; exact iht _ _ hs
    · rename_i hb; exact ihf _ _ hs
    · cases hs
  | block id b ih =>
    intro st r hs
    simp only [runC] at hs ⊢
    cases hx : runC c k b st with
    | none => rw [hx] at hs; cases hs
    | some q => rw [hx] at hs; rw [ih _ _ hx]; exact hs
  | loop b ih =>
    intro st r hs
    simp only [runC] at hs ⊢
    exact iter_mono ih k m st r hkm hs
  | scope b ih =>
    intro st r hs
    simp only [runC] at hs ⊢
    exact ih _ _ hs
theorem callK_mono (A : AProg) : ∀ (k m : Nat), k ≤ m → (callK A k).le (callK A m)
  | 0, m, _ => fun f args H out h => by cases h
  | k + 1, 0, h => by omega
  | k + 1, m + 1, h => fun f args H out hs => by
    have ih := callK_mono A k m (by omega)
    simp only [callK] at hs ⊢
    split at hs
    · exact hs
    · split at hs
      · cases hs
      · rename_i F hF
        split at hs
        · rename_i hnp
          rw [if_pos hnp]
          cases hx : runC (callK A k) k F.body (env0 F args, H) with
          | none => rw [hx] at hs; cases hs
          | some r => rw [hx] at hs; rw [code_mono ih (by omega) _ _ _ hx]; exact hs
        · cases hs

/-! ### What holds behind a piece of code -/
/-- The call answers, and K holds of its answer and the memory behind it. -/
def PCall (A : AProg) (f : Nat) (vs : List AV) (H : Heap) (K : AV → Heap → Prop) : Prop := ∃ k v H1, callK A k f vs H = some (.ok v H1) ∧ K v H1
/-- The call, made with values alone, answers this value. -/
def PVal (A : AProg) (f : Nat) (vs : List AV) (r : AV) : Prop := ∃ k v H1, callK A k f vs [] = some (.ok v H1) ∧ viewR H1 v = some r
def KN (H : Heap) (K : AV → Heap → Prop) : NRes → Prop
  | .val v => K v H
  | .new ob mk => K (mk H.length) (H ++ [ob])
def PStep (A : AProg) (o : AOp) (vs : List AV) (H : Heap) (K : AV → Heap → Prop) : Prop :=
  match o with
  | .N no => ∃ r, nstep no vs (fun b => H[b]?) = some r ∧ KN H K r
  | .X xo => ∃ r, xstep xo vs H = some r ∧ K r.1 r.2
  | .call f => PCall A f vs H K
  | .calli tmp f => ∃ vs' H', viewA H vs = some (vs', H') ∧ ∃ r, PVal A f vs' r ∧ (tmp = true → r.scal = true) ∧ K r (if tmp then H else H')
  | .callv => (match vs with
    | .fn (.func f) first cap :: args => PCall A f (first ++ args ++ cap) H K
    | _ => False)
def PO (A : AProg) (env : List AV) : List AOper → List AV → Heap → (List AV → Heap → Prop) → Prop
  | [], loc, H, Q => Q loc H
  | o :: r, loc, H, Q => ∃ b, guardOk env loc o.grd = some b ∧ (b = false → PO A env r (.tup [] :: loc) H Q) ∧ (b = true → PStep A o.o (o.args.map (evalOpd env loc)) H fun v H1 => PO A env r (v :: loc) H1 Q)
def PDX (A : AProg) (ao : AOp) (vs : List AV) (hid lds : List Nat) (H : Heap) (K : AV → Heap → Prop) : Prop :=
  PStep A ao vs (hide hid H) fun v H1 => (∀ b ∈ lds, H1[b]? = (hide hid H)[b]?) ∧ K v (unhide hid H H1)
def PD (A : AProg) (env : List AV) : List AOper → List AV → List (Option Nat) → List (Option Nat) → Heap → (List AV → Heap → Prop) → Prop
  | [], loc, _, _, H, Q => Q loc H
  | o :: r, loc, ts, bs, H, Q => ∃ b, guardOk env loc o.grd = some b ∧ (b = false → PD A env r (.tup [] :: loc) (none :: ts) (none :: bs) H Q) ∧ (b = true →
      match o.o with
      | .N no => ∃ x, nstep no (o.args.map (evalOpd env loc)) (fun b => H[b]?) = some x ∧ (match x with
        | .val v => PD A env r (v :: loc) (ntouch no (o.args.map (evalOpd env loc)) :: ts) (none :: bs) H Q
        | .new ob mk => PD A env r (mk H.length :: loc) (none :: ts) (some H.length :: bs) (H ++ [ob]) Q)
      | ao => PDX A ao (o.args.map (evalOpd env loc)) (gather o.bef bs) (gather o.bef ts) H fun v H1 => PD A env r (v :: loc) (none :: ts) (none :: bs) H1 Q)
def PIt (W : St → (Ex → St → Prop) → Prop) (Q : Ex → St → Prop) : Nat → St → Prop
  | 0, _ => False
  | n + 1, st => W st fun ex st' => match ex with
    | .norm => PIt W Q n st'
    | ex => Q ex st'
def PC (A : AProg) : ACode → St → (Ex → St → Prop) → Prop
  | .skip, st, Q => Q .norm st
  | .lab, st, Q => Q .norm st
  | .ret, st, Q => Q .ret st
  | .exit id, st, Q => Q (.exit id) st
  | .reg false ops outs, st, Q => PO A st.1 ops [] st.2 fun loc H => Q .norm (applyOuts st.1 loc outs, H)
  | .reg true ops outs, st, Q => PD A st.1 ops [] [] [] st.2 fun loc H => Q .norm (applyOuts st.1 loc outs, H)
  | .seq a b, st, Q => PC A a st fun ex st' => match ex with
    | .norm => PC A b st' Q
    | ex => Q ex st'
  | .cond c t e, st, Q => ∃ b, evalOpd st.1 [] c = .bool b ∧ (b = true → PC A t st Q) ∧ (b = false → PC A e st Q)
  | .block id b, st, Q => PC A b st fun ex st' => match ex with
    | .exit id' => if id' = id then Q .norm st' else Q (.exit id') st'
    | ex => Q ex st'
  | .loop b, st, Q => ∃ n, PIt (PC A b) Q n st
  | .scope b, st, Q => PC A b st Q

theorem pstep_sound {A : AProg} {o : AOp} {vs : List AV} {H : Heap} {K : AV → Heap → Prop} (h : PStep A o vs H K) : ∃ k v H1, opStep (callK A k) o vs H = some (.ok v H1) ∧ K v H1 := by
  cases o <;> simp only [PStep] at h
  · obtain ⟨r, hr, hk⟩ := h
    cases r with
    | val v => exact ⟨0, v, H, by simp [opStep, hr], hk⟩
    | new ob mk => exact ⟨0, _, _, by simp [opStep, hr], hk⟩
  · obtain ⟨r, hr, hk⟩ := h
    exact ⟨0, r.1, r.2, by simp [opStep, hr], hk⟩
  · exact h
  · rename_i tmp f
    obtain ⟨vs', H', hv, r, ⟨k, v, H1, hr, hvr⟩, hsc, hk⟩ := h
    refine ⟨k, r, _, ?_, hk⟩
    cases tmp with
    | true => simp [opStep, hv, hr, hvr, hsc rfl]
    | false => simp [opStep, hv, hr, hvr]
  · split at h
    · obtain ⟨k, v, H1, hr, hk⟩ := h
      exact ⟨k, v, H1, by simpa [opStep] using hr, hk⟩
    · exact h.elim
theorem po_sound {A : AProg} {env : List AV} : ∀ (l : List AOper) (loc : List AV) (H : Heap) (Q : List AV → Heap → Prop), PO A env l loc H Q → ∃ k loc1 H1, runOps (callK A k) env l loc H = some (.ok loc1 H1) ∧ Q loc1 H1
  | [], loc, H, Q, h => ⟨0, loc, H, rfl, h⟩
  | o :: l, loc, H, Q, h => by
    simp only [PO] at h
    obtain ⟨b, hg, h0, h1⟩ := h
    cases b with
    | false =>
      obtain ⟨k, loc1, H1, hr, hq⟩ := po_sound l _ H Q (h0 rfl)
      exact ⟨k, loc1, H1, by simp only [runOps, hg]; exact hr, hq⟩
    | true =>
      obtain ⟨k, v, H1, hr, hk⟩ := pstep_sound (h1 rfl)
      obtain ⟨m, loc1, H2, hr2, hq⟩ := po_sound l _ H1 Q hk
      refine ⟨max k m, loc1, H2, ?_, hq⟩
      simp only [runOps, hg]
      rw [op_mono (callK_mono A k (max k m) (by omega)) hr]
      exact ops_mono (callK_mono A m (max k m) (by omega)) l _ _ _ hr2
theorem pd_sound {A : AProg} {env : List AV} : ∀ (l : List AOper) (loc : List AV) (ts bs : List (Option Nat)) (H : Heap) (Q : List AV → Heap → Prop), PD A env l loc ts bs H Q → ∃ k loc1 H1, runDraw (callK A k) env l loc ts bs H = some (loc1, H1) ∧ Q loc1 H1
  | [], loc, ts, bs, H, Q, h => ⟨0, loc, H, rfl, h⟩
  | o :: l, loc, ts, bs, H, Q, h => by
    simp only [PD] at h
    obtain ⟨b, hg, h0, h1⟩ := h
    cases b with
    | false =>
      obtain ⟨k, loc1, H1, hr, hq⟩ := pd_sound l _ _ _ H Q (h0 rfl)
      exact ⟨k, loc1, H1, by simp only [runDraw, hg]; exact hr, hq⟩
    | true =>
      have h1 := h1 rfl
      have xc : PDX A o.o (o.args.map (evalOpd env loc)) (gather o.bef bs) (gather o.bef ts) H (fun v H1 => PD A env l (v :: loc) (none :: ts) (none :: bs) H1 Q) → ∃ k loc1 H1, (match opStep (callK A k) o.o (o.args.map (evalOpd env loc)) (hide (gather o.bef bs) H) with
            | some (.ok v H1) => if (gather o.bef ts).all (fun b => obEq H1[b]? (hide (gather o.bef bs) H)[b]?) then runDraw (callK A k) env l (v :: loc) (none :: ts) (none :: bs) (unhide (gather o.bef bs) H H1) else none
            | _ => none) = some (loc1, H1) ∧ Q loc1 H1 := by
        intro h
        obtain ⟨k, v, H1, hr, hk, hp⟩ := pstep_sound h
        obtain ⟨m, loc1, H2, hr2, hq⟩ := pd_sound l _ _ _ _ Q hp
        refine ⟨max k m, loc1, H2, ?_, hq⟩
        rw [op_mono (callK_mono A k (max k m) (by omega)) hr]
        simp only
        rw [if_pos (List.all_eq_true.2 fun b hb => obEq_of (hk b hb))]
        exact draw_mono (callK_mono A m (max k m) (by omega)) l _ _ _ _ _ hr2
      cases hao : o.o with
      | N no =>
        rw [hao] at h1
        simp only at h1
        obtain ⟨x, hx, hp⟩ := h1
        cases x with
        | val v =>
          obtain ⟨k, loc1, H1, hr, hq⟩ := pd_sound l _ _ _ _ Q hp
          exact ⟨k, loc1, H1, by simp only [runDraw, hg, hao, hx]; exact hr, hq⟩
        | new ob mk =>
          obtain ⟨k, loc1, H1, hr, hq⟩ := pd_sound l _ _ _ _ Q hp
          exact ⟨k, loc1, H1, by simp only [runDraw, hg, hao, hx]; exact hr, hq⟩
      | X xo =>
        rw [hao] at h1 xc; simp only at h1
        obtain ⟨k, loc1, H1, hr, hq⟩ := xc h1
        exact ⟨k, loc1, H1, by simp only [runDraw, hg, hao]; exact hr, hq⟩
      | call f =>
        rw [hao] at h1 xc; simp only at h1
        obtain ⟨k, loc1, H1, hr, hq⟩ := xc h1
        exact ⟨k, loc1, H1, by simp only [runDraw, hg, hao]; exact hr, hq⟩
      | calli tmp f =>
        rw [hao] at h1 xc; simp only at h1
        obtain ⟨k, loc1, H1, hr, hq⟩ := xc h1
        exact ⟨k, loc1, H1, by simp only [runDraw, hg, hao]; exact hr, hq⟩
      | callv =>
        rw [hao] at h1 xc; simp only at h1
        obtain ⟨k, loc1, H1, hr, hq⟩ := xc h1
        exact ⟨k, loc1, H1, by simp only [runDraw, hg, hao]; exact hr, hq⟩
theorem pc_sound {A : AProg} : ∀ (ac : ACode) (st : St) (Q : Ex → St → Prop), PC A ac st Q → ∃ k ex st', runC (callK A k) k ac st = some (ex, st') ∧ Q ex st' := by
  intro ac
  induction ac with
  | skip => intro st Q h; exact ⟨0, .norm, st, rfl, h⟩
  | lab => intro st Q h; exact ⟨0, .norm, st, rfl, h⟩
  | ret => intro st Q h; exact ⟨0, .ret, st, rfl, h⟩
  | exit id => intro st Q h; exact ⟨0, .exit id, st, rfl, h⟩
  | reg draw l outs =>
    intro st Q h
    cases draw with
    | false =>
      obtain ⟨k, loc, H, hr, hq⟩ := po_sound l _ _ _ h
      exact ⟨k, .norm, _, by simp only [runC, hr], hq⟩
    | true =>
      obtain ⟨k, loc, H, hr, hq⟩ := pd_sound l _ _ _ _ _ h
      exact ⟨k, .norm, _, by simp only [runC, hr], hq⟩
  | seq x y ihx ihy =>
    intro st Q h
    obtain ⟨k, e, s, hr, hq⟩ := ihx st _ h
    cases e with
    | norm =>
      obtain ⟨m, e2, s2, hr2, hq2⟩ := ihy s Q hq
      refine ⟨max k m, e2, s2, ?_, hq2⟩
      simp only [runC]
      rw [code_mono (callK_mono A k (max k m) (by omega)) (by omega : k ≤ max k m) _ _ _ hr]
      exact code_mono (callK_mono A m (max k m) (by omega)) (by omega : m ≤ max k m) _ _ _ hr2
    | ret => exact ⟨k, .ret, s, by simp only [runC, hr], hq⟩
    | exit id => exact ⟨k, .exit id, s, by simp only [runC, hr], hq⟩
    | pan v => exact ⟨k, .pan v, s, by simp only [runC, hr], hq⟩
  | cond c t f iht ihf =>
    intro st Q h
    obtain ⟨b, hb, h1, h2⟩ := h
    cases b with
    | true =>
      obtain ⟨k, e, s, hr, hq⟩ := iht st Q (h1 rfl)
      exact ⟨k, e, s, by simp only [runC, hb]; exact hr, hq⟩
    | false =>
      obtain ⟨k, e, s, hr, hq⟩ := ihf st Q (h2 rfl)
      exact ⟨k, e, s, by simp only [runC, hb]; exact hr, hq⟩
  | block id b ih =>
    intro st Q h
    obtain ⟨k, e, s, hr, hq⟩ := ih st _ h
    cases e with
    | exit id' =>
      simp only at hq
      split at hq
      · rename_i e; exact ⟨k, .norm, s, by simp only [runC, hr, if_pos e], hq⟩
      · rename_i e; exact ⟨k, .exit id', s, by simp only [runC, hr, if_neg e], hq⟩
    | norm => exact ⟨k, .norm, s, by simp only [runC, hr], hq⟩
    | ret => exact ⟨k, .ret, s, by simp only [runC, hr], hq⟩
    | pan v => exact ⟨k, .pan v, s, by simp only [runC, hr], hq⟩
  | loop b ih =>
    intro st Q h
    obtain ⟨n, hn⟩ := h
    have key : ∀ (n : Nat) (st : St), PIt (PC A b) Q n st → ∃ k ex st', iter (runC (callK A k) k b) n st = some (ex, st') ∧ Q ex st' := by
      intro n
      induction n with
      | zero => intro st h; exact h.elim
      | succ n ihn =>
        intro st h
        obtain ⟨k, e, s, hr, hq⟩ := ih st _ h
        cases e with
        | norm =>
          obtain ⟨m, e2, s2, hr2, hq2⟩ := ihn s hq
          refine ⟨max k m, e2, s2, ?_, hq2⟩
          simp only [iter]
          rw [code_mono (callK_mono A k (max k m) (by omega)) (by omega : k ≤ max k m) _ _ _ hr]
          exact iter_mono (fun st r h => code_mono (callK_mono A m (max k m) (by omega)) (by omega : m ≤ max k m) _ _ _ h) n n s _ (Nat.le_refl _) hr2
        | ret => exact ⟨k, .ret, s, by simp only [iter, hr], hq⟩
        | exit id => exact ⟨k, .exit id, s, by simp only [iter, hr], hq⟩
        | pan v => exact ⟨k, .pan v, s, by simp only [iter, hr], hq⟩
    obtain ⟨k, e, s, hr, hq⟩ := key n st hn
    refine ⟨max k n, e, s, ?_, hq⟩
    simp only [runC]
    exact iter_mono (fun st r h => code_mono (callK_mono A k (max k n) (by omega)) (by omega : k ≤ max k n) _ _ _ h) n (max k n) st _ (by omega) hr
  | scope b ih => intro st Q h; exact ih st Q h

/-- A function's contract, out of its body. -/
theorem pcall_of {A : AProg} {f : Nat} {F : AFn} {args : List AV} {H : Heap} {K : AV → Heap → Prop} (hx : A.ext f = none) (hF : A.fns.lookup f = some F) (hn : args.length = F.np)
    (h : PC A F.body (env0 F args, H) fun ex st => match ex with
      | .norm | .ret => ∃ vs, resVs st.1 st.2 F.res = some vs ∧ K (pack vs) st.2
      | _ => False) : PCall A f args H K := by
  obtain ⟨k, e, s, hr, hq⟩ := pc_sound _ _ _ h
  refine ⟨k + 1, ?_⟩
  cases e with
  | norm =>
    obtain ⟨vs, hv, hk⟩ := hq
    exact ⟨pack vs, s.2, by simp only [callK, hx, hF, if_pos hn, hr, finish, hv], hk⟩
  | ret =>
    obtain ⟨vs, hv, hk⟩ := hq
    exact ⟨pack vs, s.2, by simp only [callK, hx, hF, if_pos hn, hr, finish, hv], hk⟩
  | exit id => exact hq.elim
  | pan v => exact hq.elim
theorem PCall.mono {A : AProg} {f : Nat} {vs : List AV} {H : Heap} {K K' : AV → Heap → Prop} (h : PCall A f vs H K) (hk : ∀ v H1, K v H1 → K' v H1) : PCall A f vs H K' :=
  let ⟨k, v, H1, hr, q⟩ := h; ⟨k, v, H1, hr, hk _ _ q⟩
theorem PStep.mono {A : AProg} {o : AOp} {vs : List AV} {H : Heap} {K K' : AV → Heap → Prop} (h : PStep A o vs H K) (hk : ∀ v H1, K v H1 → K' v H1) : PStep A o vs H K' := by
  cases o <;> simp only [PStep] at h ⊢
  · obtain ⟨r, hr, q⟩ := h
    exact ⟨r, hr, by cases r <;> exact hk _ _ q⟩
  · obtain ⟨r, hr, q⟩ := h; exact ⟨r, hr, hk _ _ q⟩
  · exact h.mono hk
  · obtain ⟨vs', H', hv, r, hp, hsc, q⟩ := h; exact ⟨vs', H', hv, r, hp, hsc, hk _ _ q⟩
  · split at h
    · exact h.mono hk
    · exact h.elim
theorem PO.mono {A : AProg} {env : List AV} : ∀ {l : List AOper} {loc : List AV} {H : Heap} {Q Q' : List AV → Heap → Prop}, PO A env l loc H Q → (∀ loc H, Q loc H → Q' loc H) → PO A env l loc H Q'
  | [], loc, H, Q, Q', h, hq => hq _ _ h
  | o :: l, loc, H, Q, Q', h, hq => by
    simp only [PO] at h ⊢
    obtain ⟨b, hg, h0, h1⟩ := h
    exact ⟨b, hg, fun e => (h0 e).mono hq, fun e => (h1 e).mono fun v H1 q => PO.mono q hq⟩
theorem PD.mono {A : AProg} {env : List AV} : ∀ {l : List AOper} {loc : List AV} {ts bs : List (Option Nat)} {H : Heap} {Q Q' : List AV → Heap → Prop}, PD A env l loc ts bs H Q → (∀ loc H, Q loc H → Q' loc H) → PD A env l loc ts bs H Q'
  | [], loc, ts, bs, H, Q, Q', h, hq => hq _ _ h
  | o :: l, loc, ts, bs, H, Q, Q', h, hq => by
    simp only [PD] at h ⊢
    obtain ⟨b, hg, h0, h1⟩ := h
    refine ⟨b, hg, fun e => PD.mono (h0 e) hq, fun e => ?_⟩
    have h1 := h1 e
    split at h1
    · obtain ⟨x, hx, q⟩ := h1
      refine ⟨x, hx, ?_⟩
      cases x <;> exact PD.mono q hq
    · exact PStep.mono h1 fun v H1 q => ⟨q.1, PD.mono q.2 hq⟩
theorem PIt.mono {W : St → (Ex → St → Prop) → Prop} (hW : ∀ st Q Q', W st Q → (∀ e s, Q e s → Q' e s) → W st Q') {Q Q' : Ex → St → Prop} (hq : ∀ e s, Q e s → Q' e s) : ∀ {n : Nat} {st : St}, PIt W Q n st → PIt W Q' n st
  | 0, _, h => h.elim
  | n + 1, st, h => hW st _ _ h fun e s q => by
    cases e with
    | norm => exact PIt.mono hW hq q
    | ret => exact hq _ _ q
    | exit id => exact hq _ _ q
    | pan v => exact hq _ _ q
theorem PC.mono {A : AProg} : ∀ {ac : ACode} {st : St} {Q Q' : Ex → St → Prop}, PC A ac st Q → (∀ e s, Q e s → Q' e s) → PC A ac st Q' := by
  intro ac
  induction ac with
  | skip | lab | ret | exit => intro st Q Q' h hq; exact hq _ _ h
  | reg draw l outs =>
    intro st Q Q' h hq
    cases draw with
    | false => exact PO.mono h fun loc H q => hq _ _ q
    | true => exact PD.mono h fun loc H q => hq _ _ q
  | seq x y ihx ihy =>
    intro st Q Q' h hq
    refine ihx h fun e s q => ?_
    cases e with
    | norm => exact ihy q hq
    | ret => exact hq _ _ q
    | exit id => exact hq _ _ q
    | pan v => exact hq _ _ q
  | cond c t f iht ihf =>
    intro st Q Q' h hq
    obtain ⟨b, hb, h1, h2⟩ := h
    exact ⟨b, hb, fun e => iht (h1 e) hq, fun e => ihf (h2 e) hq⟩
  | block id b ih =>
    intro st Q Q' h hq
    refine ih h fun e s q => ?_
    cases e with
    | exit id' =>
      simp only at q ⊢
      split at q
      · rename_i e; rw [if_pos e]; exact hq _ _ q
      · rename_i e; rw [if_neg e]; exact hq _ _ q
    | norm => exact hq _ _ q
    | ret => exact hq _ _ q
    | pan v => exact hq _ _ q
  | loop b ih =>
    intro st Q Q' h hq
    obtain ⟨n, hn⟩ := h
    exact ⟨n, PIt.mono (W := PC A b) (fun st Q Q' h hq => ih h hq) hq hn⟩
  | scope b ih => intro st Q Q' h hq; exact ih h hq

/-- A LOOP: what holds at each round's head, and a number that each round lowers. -/
theorem pc_loop {A : AProg} {b : ACode} {st : St} {Q : Ex → St → Prop} (I : Nat → St → Prop) (n : Nat) (h0 : I n st)
    (hstep : ∀ n st, I n st → PC A b st fun ex st' => match ex with
      | .norm => ∃ m, m < n ∧ I m st'
      | ex => Q ex st') : PC A (.loop b) st Q := by
  have key : ∀ (n : Nat) (st : St), I n st → PIt (PC A b) Q (n + 1) st := by
    intro n
    induction n using Nat.strongRecOn with
    | _ n ih =>
      intro st h
      refine PC.mono (hstep n st h) fun e s q => ?_
      cases e with
      | norm =>
        obtain ⟨m, hm, hi⟩ := q
        have hk := ih m hm s hi
        -- more rounds do no harm
        have more : ∀ (n m : Nat) (st : St), n ≤ m → PIt (PC A b) Q n st → PIt (PC A b) Q m st := by
          intro n
          induction n with
          | zero => intro m st _ h; exact h.elim
          | succ n ihn =>
            intro m st hle h
            obtain ⟨m, rfl⟩ : ∃ k, m = k + 1 := ⟨m - 1, by omega⟩
            refine PC.mono h fun e s q => ?_
            cases e with
            | norm => exact ihn m s (by omega) q
            | ret => exact q
            | exit id => exact q
            | pan v => exact q
        exact more (m + 1) n s (by omega) hk
      | ret => exact q
      | exit id => exact q
      | pan v => exact q
  exact ⟨n + 1, key n st h0⟩
end Go.Ai
/- Small facts for the proofs over the abstract machine: one step at a time, from the front. -/
namespace Go.Ai
set_option linter.unusedVariables false
set_option linter.unusedSimpArgs false
theorem ite_bool (c : Prop) [Decidable c] (a b : Bool) : (if c then AV.bool a else AV.bool b) = AV.bool (if c then a else b) := by split <;> rfl
theorem ite_int (c : Prop) [Decidable c] (k : IntKind) (a b : Int) : (if c then AV.int k a else AV.int k b) = AV.int k (if c then a else b) := by split <;> rfl
theorem lt_more {a b : Nat} (c : Nat) (h : a < b) : (a < b + c) = True := by simp; omega
theorem wrap_in {n : Int} (h1 : -9223372036854775808 ≤ n) (h2 : n ≤ 9223372036854775807) : IntKind.i64.wrap n = n := by
  simp [IntKind.wrap, IntKind.bits, IntKind.signed]; omega

/-- What comes later is not looked at ahead of its time: a part of a goal into which 'simp' does not look. -/
abbrev Tg {α : Type} (_ : α) : Type := Unit
def hid {α : Type} (a : α) (_ : Tg a) : α := a
theorem hid_p (P : Prop) : hid P () = P := Eq.trans rfl rfl
theorem hid_k (K : AV → Heap → Prop) (v : AV) (H : Heap) : hid K () v H = K v H := Eq.trans rfl rfl
theorem hid_v (K : AV → Prop) (v : AV) : hid K () v = K v := Eq.trans rfl rfl
theorem hid_o (K : List AV → Heap → Prop) (v : List AV) (H : Heap) : hid K () v H = K v H := Eq.trans rfl rfl
theorem hid_q (Q : Ex → St → Prop) (e : Ex) (st : St) : hid Q () e st = Q e st := Eq.trans rfl rfl
def KNO (H : Heap) (K : AV → Heap → Prop) (r : Option NRes) : Prop := ∃ x, r = some x ∧ KN H K x
def KXO (K : AV → Heap → Prop) (r : Option (AV × Heap)) : Prop := ∃ x, r = some x ∧ K x.1 x.2
def KB (v : AV) (P R : Prop) : Prop := ∃ b, v = .bool b ∧ (b = true → P) ∧ (b = false → R)
theorem getD_z (x d : AV) (xs : List AV) : (x :: xs).getD 0 d = x := rfl
theorem getD_s (x d : AV) (xs : List AV) (n : Nat) : (x :: xs).getD (n + 1) d = xs.getD n d := rfl
theorem int_bne (a b : Int) : (a != b) = !(decide (a = b)) := by by_cases h : a = b <;> simp [h]
theorem int_beq (a b : Int) : (a == b) = decide (a = b) := by by_cases h : a = b <;> simp [h]
theorem b_add (k : IntKind) (a b : Int) : binV .add (.int k a) (.int k b) = some (.int k (k.wrap (a + b))) := by simp [binV]
theorem b_sub (k : IntKind) (a b : Int) : binV .sub (.int k a) (.int k b) = some (.int k (k.wrap (a - b))) := by simp [binV]
theorem b_mul (k : IntKind) (a b : Int) : binV .mul (.int k a) (.int k b) = some (.int k (k.wrap (a * b))) := by simp [binV]
theorem b_eql (k : IntKind) (a b : Int) : binV .eql (.int k a) (.int k b) = some (.bool (a == b)) := by simp [binV]
theorem b_neq (k : IntKind) (a b : Int) : binV .neq (.int k a) (.int k b) = some (.bool (a != b)) := by simp [binV]
theorem b_lss (k : IntKind) (a b : Int) : binV .lss (.int k a) (.int k b) = some (.bool (decide (a < b))) := by simp [binV]
theorem b_leq (k : IntKind) (a b : Int) : binV .leq (.int k a) (.int k b) = some (.bool (decide (a ≤ b))) := by simp [binV]
theorem b_gtr (k : IntKind) (a b : Int) : binV .gtr (.int k a) (.int k b) = some (.bool (decide (a > b))) := by simp [binV]
theorem b_geq (k : IntKind) (a b : Int) : binV .geq (.int k a) (.int k b) = some (.bool (decide (a ≥ b))) := by simp [binV]
theorem b_rem (k : IntKind) (a b : Int) (h : b ≠ 0) : binV .rem (.int k a) (.int k b) = some (.int k (a.tmod b)) := by simp [binV, h]
theorem b_quo (k : IntKind) (a b : Int) (h : b ≠ 0) : binV .quo (.int k a) (.int k b) = some (.int k (k.wrap (a.tdiv b))) := by simp [binV, h]
theorem b_and16 (a : Int) : binV .and (.int .i64 a) (.int .i64 65535) = some (.int .i64 (a % 65536)) := by
  have e : ((BitVec.ofInt 64 a &&& BitVec.ofInt 64 65535).toNat : Int) = a % 65536 := by
    rw [BitVec.toNat_and, BitVec.toNat_ofInt, BitVec.toNat_ofInt]
    have h2 : ((65535 : Int) % ((2 ^ 64 : Nat) : Int)).toNat = 2 ^ 16 - 1 := by decide
    rw [h2, Nat.and_two_pow_sub_one_eq_mod]
    have h1 : (0 : Int) ≤ a % ((2 ^ 64 : Nat) : Int) := Int.emod_nonneg _ (by decide)
    rw [Int.natCast_emod, Int.toNat_of_nonneg h1]
    exact Int.emod_emod_of_dvd a (by decide)
  have e2 : binV .and (.int .i64 a) (.int .i64 65535) = some (.int .i64 (IntKind.i64.wrap ((BitVec.ofInt 64 a &&& BitVec.ofInt 64 65535).toNat : Int))) := rfl
  rw [e2, e, wrap_in (by omega) (by omega)]

/-- A guard. -/
def gv (v : AV) (w : Bool) : Option Bool :=
  match v with
  | .bool b => some (b == w)
  | .tup [] => some false
  | _ => none
def KG (v : AV) (w : Bool) (P R : Prop) : Prop := ∃ b, gv v w = some b ∧ (b = true → P) ∧ (b = false → R)
theorem KG_skip (w : Bool) (P R : Prop) : KG (.tup []) w P (hid R ()) = R := by simp [KG, gv, hid]
theorem KG_tt (P R : Prop) : KG (.bool true) true (hid P ()) R = P := by simp [KG, gv, hid]
theorem KG_ff (P R : Prop) : KG (.bool false) false (hid P ()) R = P := by simp [KG, gv, hid]
theorem KG_tf (P R : Prop) : KG (.bool true) false P (hid R ()) = R := by simp [KG, gv, hid]
theorem KG_ft (P R : Prop) : KG (.bool false) true P (hid R ()) = R := by simp [KG, gv, hid]
theorem KG_var (b w : Bool) (P R : Prop) : KG (.bool b) w P R = if b = w then P else R := by cases b <;> cases w <;> simp [KG, gv]
theorem KNO_val (H : Heap) (K : AV → Heap → Prop) (v : AV) : KNO H K (some (.val v)) = K v H := by simp [KNO, KN]
theorem KNO_new (H : Heap) (K : AV → Heap → Prop) (ob : Ob) (mk : Nat → AV) : KNO H K (some (.new ob mk)) = K (mk H.length) (H ++ [ob]) := by simp [KNO, KN]
theorem KNO_ite (H : Heap) (K : AV → Heap → Prop) (c : Prop) [Decidable c] (x : Option NRes) : KNO H K (if c then x else none) = (c ∧ KNO H K x) := by by_cases h : c <;> simp [KNO, h]
theorem KNO_map {α : Type} (H : Heap) (K : AV → Heap → Prop) (f : α → NRes) (x : α) : KNO H K (Option.map f (some x)) = KNO H K (some (f x)) := Eq.trans rfl rfl
theorem KXO_some (K : AV → Heap → Prop) (v : AV) (H : Heap) : KXO K (some (v, H)) = K v H := by simp [KXO]
theorem KXO_ite (K : AV → Heap → Prop) (c : Prop) [Decidable c] (x : Option (AV × Heap)) : KXO K (if c then x else none) = (c ∧ KXO K x) := by by_cases h : c <;> simp [KXO, h]
theorem KB_true (P R : Prop) : KB (.bool true) (hid P ()) R = P := by simp [KB, hid]
theorem KB_false (P R : Prop) : KB (.bool false) P (hid R ()) = R := by simp [KB, hid]
theorem KB_dec (p : Prop) [Decidable p] (P R : Prop) : KB (.bool (decide p)) P R = if p then P else R := by by_cases h : p <;> simp [KB, h]
theorem KB_var (b : Bool) (P R : Prop) : KB (.bool b) P R = if b = true then P else R := by cases b <;> simp [KB]

theorem one_bool (b : Bool) : AV.one (.bool b) = true := rfl
theorem cells_bool (b : Bool) : AV.cells (.bool b) = [.bool b] := rfl
theorem one_int (k : IntKind) (n : Int) : AV.one (.int k n) = true := rfl
theorem cells_int (k : IntKind) (n : Int) : AV.cells (.int k n) = [.int k n] := rfl
theorem one_str (s : ByteArray) : AV.one (.str s) = true := rfl
theorem cells_str (s : ByteArray) : AV.cells (.str s) = [.str s] := rfl
theorem one_nilp  : AV.one (.nilp) = true := rfl
theorem cells_nilp  : AV.cells (.nilp) = [.nilp] := rfl
theorem one_ptr (b g o : Nat) : AV.one (.ptr b g o) = true := rfl
theorem cells_ptr (b g o : Nat) : AV.cells (.ptr b g o) = [.ptr b g o] := rfl
theorem one_nils  : AV.one (.nils) = true := rfl
theorem cells_nils  : AV.cells (.nils) = [.nils] := rfl
theorem one_sl (b g o n sz cl : Nat) (ex : Bool) : AV.one (.sl b g o n sz cl ex) = true := rfl
theorem cells_sl (b g o n sz cl : Nat) (ex : Bool) : AV.cells (.sl b g o n sz cl ex) = [.sl b g o n sz cl ex] := rfl
theorem one_nilf  : AV.one (.nilf) = true := rfl
theorem cells_nilf  : AV.cells (.nilf) = [.nilf] := rfl
theorem one_fn (f : Fn) (x y : List AV) : AV.one (.fn f x y) = true := rfl
theorem cells_fn (f : Fn) (x y : List AV) : AV.cells (.fn f x y) = [.fn f x y] := rfl
theorem one_nili  : AV.one (.nili) = true := rfl
theorem cells_nili  : AV.cells (.nili) = [.nili] := rfl
theorem one_mp (b : Nat) : AV.one (.mp b) = true := rfl
theorem cells_mp (b : Nat) : AV.cells (.mp b) = [.mp b] := rfl
theorem one_nilm  : AV.one (.nilm) = true := rfl
theorem cells_nilm  : AV.cells (.nilm) = [.nilm] := rfl
theorem one_iface (t : TypeId) (v : AV) : AV.one (.iface t v) = true := rfl
theorem cells_iface (t : TypeId) (v : AV) : AV.cells (.iface t v) = [.iface t v] := rfl
theorem cells_agg (xs : List AV) : AV.cells (.agg xs) = xs := rfl
variable {A : AProg}
theorem PO_nil (env loc : List AV) (H : Heap) (Q : List AV → Heap → Prop) : PO A env [] loc H Q = Q loc H := Eq.trans rfl rfl
theorem PO_none (env loc : List AV) (ix : Nat) (o : AOp) (args : List AOpd) (bef : Nat) (r : List AOper) (H : Heap) (Q : List AV → Heap → Prop) :
    PO A env (⟨ix, o, args, none, bef⟩ :: r) loc H Q = PStep A o (args.map (evalOpd env loc)) H (hid (fun v H1 => PO A env r (v :: loc) H1 Q) ()) := by simp [PO, guardOk, hid]
theorem PO_grd (env loc : List AV) (ix : Nat) (o : AOp) (args : List AOpd) (p : AOpd) (w : Bool) (bef : Nat) (r : List AOper) (H : Heap) (Q : List AV → Heap → Prop) :
    PO A env (⟨ix, o, args, some (p, w), bef⟩ :: r) loc H Q = KG (evalOpd env loc p) w (hid (PStep A o (args.map (evalOpd env loc)) H (hid (fun v H1 => PO A env r (v :: loc) H1 Q) ())) ()) (hid (PO A env r (.tup [] :: loc) H Q) ()) := by
  have e : guardOk env loc (some (p, w)) = gv (evalOpd env loc p) w := by
    simp only [guardOk, gv]
    cases evalOpd env loc p with
    | tup xs => cases xs <;> rfl
    | _ => rfl
  simp only [PO, e, KG, hid]
  apply propext
  constructor <;> rintro ⟨b, h, k1, k2⟩ <;> exact ⟨b, h, k2, k1⟩
/-- What an operation of a drawn row does. -/
def PDO (A : AProg) (o : AOper) (env loc : List AV) (r : List AOper) (ts bs : List (Option Nat)) (H : Heap) (Q : List AV → Heap → Prop) : Prop :=
  match o.o with
  | .N no => ∃ x, nstep no (o.args.map (evalOpd env loc)) (fun b => H[b]?) = some x ∧ (match x with
    | .val v => PD A env r (v :: loc) (ntouch no (o.args.map (evalOpd env loc)) :: ts) (none :: bs) H Q
    | .new ob mk => PD A env r (mk H.length :: loc) (none :: ts) (some H.length :: bs) (H ++ [ob]) Q)
  | ao => PDX A ao (o.args.map (evalOpd env loc)) (gather o.bef bs) (gather o.bef ts) H fun v H1 => PD A env r (v :: loc) (none :: ts) (none :: bs) H1 Q
theorem PD_nil (env loc : List AV) (ts bs : List (Option Nat)) (H : Heap) (Q : List AV → Heap → Prop) : PD A env [] loc ts bs H Q = Q loc H := Eq.trans rfl rfl
theorem PD_none (env loc : List AV) (ts bs : List (Option Nat)) (ix : Nat) (o : AOp) (args : List AOpd) (bef : Nat) (r : List AOper) (H : Heap) (Q : List AV → Heap → Prop) :
    PD A env (⟨ix, o, args, none, bef⟩ :: r) loc ts bs H Q = PDO A ⟨ix, o, args, none, bef⟩ env loc r ts bs H Q := by
  cases o <;> simp [PD, PDO, guardOk]
  all_goals (constructor <;> rintro ⟨x, h, k⟩ <;> exact ⟨x, h, by cases x <;> exact k⟩)
theorem PD_grd (env loc : List AV) (ts bs : List (Option Nat)) (ix : Nat) (o : AOp) (args : List AOpd) (p : AOpd) (w : Bool) (bef : Nat) (r : List AOper) (H : Heap) (Q : List AV → Heap → Prop) :
    PD A env (⟨ix, o, args, some (p, w), bef⟩ :: r) loc ts bs H Q = KG (evalOpd env loc p) w (hid (PDO A ⟨ix, o, args, none, bef⟩ env loc r ts bs H Q) ()) (hid (PD A env r (.tup [] :: loc) (none :: ts) (none :: bs) H Q) ()) := by
  have e : guardOk env loc (some (p, w)) = gv (evalOpd env loc p) w := by
    simp only [guardOk, gv]
    cases evalOpd env loc p with
    | tup xs => cases xs <;> rfl
    | _ => rfl
  simp only [PD, e, KG, hid]
  apply propext
  constructor
  · rintro ⟨b, h, k1, k2⟩
    refine ⟨b, h, fun hb => ?_, k1⟩
    have k2 := k2 hb
    cases o <;> simp only [PDO] at k2 ⊢ <;> first | exact k2 | (obtain ⟨x, h, k⟩ := k2; exact ⟨x, h, by cases x <;> exact k⟩)
  · rintro ⟨b, h, k1, k2⟩
    refine ⟨b, h, k2, fun hb => ?_⟩
    have k1 := k1 hb
    cases o <;> simp only [PDO] at k1 ⊢ <;> first | exact k1 | (obtain ⟨x, h, k⟩ := k1; exact ⟨x, h, by cases x <;> exact k⟩)
def KNOD (A : AProg) (env loc : List AV) (r : List AOper) (t : Option Nat) (ts bs : List (Option Nat)) (H : Heap) (Q : List AV → Heap → Prop) (x : Option NRes) : Prop :=
  ∃ y, x = some y ∧ (match y with
    | .val v => PD A env r (v :: loc) (t :: ts) (none :: bs) H Q
    | .new ob mk => PD A env r (mk H.length :: loc) (none :: ts) (some H.length :: bs) (H ++ [ob]) Q)
theorem KNOD_val (env loc : List AV) (r : List AOper) (t : Option Nat) (ts bs : List (Option Nat)) (H : Heap) (Q : List AV → Heap → Prop) (v : AV) : KNOD A env loc r t ts bs H Q (some (.val v)) = PD A env r (v :: loc) (t :: ts) (none :: bs) H Q := by simp [KNOD]
theorem KNOD_new (env loc : List AV) (r : List AOper) (t : Option Nat) (ts bs : List (Option Nat)) (H : Heap) (Q : List AV → Heap → Prop) (ob : Ob) (mk : Nat → AV) : KNOD A env loc r t ts bs H Q (some (.new ob mk)) = PD A env r (mk H.length :: loc) (none :: ts) (some H.length :: bs) (H ++ [ob]) Q := by simp [KNOD]
theorem KNOD_ite (env loc : List AV) (r : List AOper) (t : Option Nat) (ts bs : List (Option Nat)) (H : Heap) (Q : List AV → Heap → Prop) (c : Prop) [Decidable c] (x : Option NRes) : KNOD A env loc r t ts bs H Q (if c then x else none) = (c ∧ KNOD A env loc r t ts bs H Q x) := by by_cases h : c <;> simp [KNOD, h]
theorem PDO_N (env loc : List AV) (ts bs : List (Option Nat)) (ix : Nat) (no : NOp) (args : List AOpd) (bef : Nat) (r : List AOper) (H : Heap) (Q : List AV → Heap → Prop) :
    PDO A ⟨ix, .N no, args, none, bef⟩ env loc r ts bs H Q = KNOD A env loc r (ntouch no (args.map (evalOpd env loc))) ts bs H Q (nstep no (args.map (evalOpd env loc)) (fun b => H[b]?)) := rfl
theorem PDO_X (env loc : List AV) (ts bs : List (Option Nat)) (ix : Nat) (xo : XOp) (args : List AOpd) (bef : Nat) (r : List AOper) (H : Heap) (Q : List AV → Heap → Prop) :
    PDO A ⟨ix, .X xo, args, none, bef⟩ env loc r ts bs H Q = PDX A (.X xo) (args.map (evalOpd env loc)) (gather bef bs) (gather bef ts) H (hid (fun v H1 => PD A env r (v :: loc) (none :: ts) (none :: bs) H1 Q) ()) := rfl
theorem PDO_call (env loc : List AV) (ts bs : List (Option Nat)) (ix : Nat) (f : Nat) (args : List AOpd) (bef : Nat) (r : List AOper) (H : Heap) (Q : List AV → Heap → Prop) :
    PDO A ⟨ix, .call f, args, none, bef⟩ env loc r ts bs H Q = PDX A (.call f) (args.map (evalOpd env loc)) (gather bef bs) (gather bef ts) H (hid (fun v H1 => PD A env r (v :: loc) (none :: ts) (none :: bs) H1 Q) ()) := rfl
theorem PDO_calli (env loc : List AV) (ts bs : List (Option Nat)) (ix : Nat) (tmp : Bool) (f : Nat) (args : List AOpd) (bef : Nat) (r : List AOper) (H : Heap) (Q : List AV → Heap → Prop) :
    PDO A ⟨ix, .calli tmp f, args, none, bef⟩ env loc r ts bs H Q = PDX A (.calli tmp f) (args.map (evalOpd env loc)) (gather bef bs) (gather bef ts) H (hid (fun v H1 => PD A env r (v :: loc) (none :: ts) (none :: bs) H1 Q) ()) := rfl
theorem PDO_callv (env loc : List AV) (ts bs : List (Option Nat)) (ix : Nat) (args : List AOpd) (bef : Nat) (r : List AOper) (H : Heap) (Q : List AV → Heap → Prop) :
    PDO A ⟨ix, .callv, args, none, bef⟩ env loc r ts bs H Q = PDX A .callv (args.map (evalOpd env loc)) (gather bef bs) (gather bef ts) H (hid (fun v H1 => PD A env r (v :: loc) (none :: ts) (none :: bs) H1 Q) ()) := rfl
theorem PDX_free (o : AOp) (vs : List AV) (H : Heap) (K : AV → Heap → Prop) : PDX A o vs [] [] H K = PStep A o vs H K := by
  simp [PDX, hide, unhide]
theorem PDX_eq (o : AOp) (vs : List AV) (hid' lds : List Nat) (H : Heap) (K : AV → Heap → Prop) : PDX A o vs hid' lds H K = PStep A o vs (hide hid' H) (hid (fun v H1 => (∀ b ∈ lds, H1[b]? = (hide hid' H)[b]?) ∧ K v (unhide hid' H H1)) ()) := Eq.trans rfl rfl
theorem PStep_N (no : NOp) (vs : List AV) (H : Heap) (K : AV → Heap → Prop) : PStep A (.N no) vs H K = KNO H K (nstep no vs (fun b => H[b]?)) := Eq.trans rfl rfl
theorem PStep_X (xo : XOp) (vs : List AV) (H : Heap) (K : AV → Heap → Prop) : PStep A (.X xo) vs H K = KXO K (xstep xo vs H) := Eq.trans rfl rfl
theorem PStep_call (f : Nat) (vs : List AV) (H : Heap) (K : AV → Heap → Prop) : PStep A (.call f) vs H K = PCall A f vs H K := Eq.trans rfl rfl
/-- A call that is made with values alone, and what is done with its answer. -/
def PCallV (A : AProg) (f : Nat) (vs : List AV) (K : AV → Prop) : Prop := ∃ r, PVal A f vs r ∧ K r
def KVA (A : AProg) (tmp : Bool) (f : Nat) (H : Heap) (K : AV → Heap → Prop) (x : Option (List AV × Heap)) : Prop := ∃ vs' H', x = some (vs', H') ∧ PCallV A f vs' fun r => (tmp = true → r.scal = true) ∧ K r (if tmp then H else H')
theorem PStep_calli (tmp : Bool) (f : Nat) (vs : List AV) (H : Heap) (K : AV → Heap → Prop) : PStep A (.calli tmp f) vs H K = KVA A tmp f H K (viewA H vs) := Eq.trans rfl rfl
theorem KVA_t (f : Nat) (H H' : Heap) (K : AV → Heap → Prop) (vs' : List AV) : KVA A true f H K (some (vs', H')) = PCallV A f vs' (hid (fun r => r.scal = true ∧ K r H) ()) := by
  apply propext
  constructor
  · rintro ⟨vs2, H2, e, r, h1, h2, h3⟩; cases e; exact ⟨r, h1, h2 rfl, h3⟩
  · rintro ⟨r, h1, h2, h3⟩; exact ⟨vs', H', rfl, r, h1, fun _ => h2, h3⟩
theorem KVA_f (f : Nat) (H H' : Heap) (K : AV → Heap → Prop) (vs' : List AV) : KVA A false f H K (some (vs', H')) = PCallV A f vs' (hid (fun r => K r H') ()) := by
  apply propext
  constructor
  · rintro ⟨vs2, H2, e, r, h1, h2, h3⟩; cases e; exact ⟨r, h1, h3⟩
  · rintro ⟨r, h1, h3⟩; exact ⟨vs', H', rfl, r, h1, fun h => (by cases h), h3⟩
theorem PVal.unique {f : Nat} {vs : List AV} {r r' : AV} (h : PVal A f vs r) (h' : PVal A f vs r') : r = r' := by
  obtain ⟨k, v, H1, h1, h2⟩ := h
  obtain ⟨m, v', H1', h1', h2'⟩ := h'
  have e1 := callK_mono A k (max k m) (by omega) _ _ _ _ h1
  have e2 := callK_mono A m (max k m) (by omega) _ _ _ _ h1'
  rw [e1] at e2
  cases e2
  rw [h2] at h2'
  exact Option.some.inj h2'
theorem PVal.eq {f : Nat} {vs : List AV} {r : AV} (h : PVal A f vs r) (K : AV → Prop) : PCallV A f vs K = K r := by
  apply propext
  constructor
  · rintro ⟨r', h1, h2⟩; rw [h.unique h1]; exact h2
  · intro h2; exact ⟨r, h, h2⟩
theorem PVal.of {f : Nat} {vs : List AV} {r : AV} (h : PCall A f vs [] fun v H => viewR H v = some r) : PVal A f vs r := by
  obtain ⟨k, v, H1, h1, h2⟩ := h
  exact ⟨k, v, H1, h1, h2⟩
theorem PStep_callv (f : Nat) (first cap args : List AV) (H : Heap) (K : AV → Heap → Prop) : PStep A .callv (.fn (.func f) first cap :: args) H K = PCall A f (first ++ args ++ cap) H K := Eq.trans rfl rfl
theorem PC_skip (st : St) (Q : Ex → St → Prop) : PC A .skip st Q = Q .norm st := Eq.trans rfl rfl
theorem PC_lab (st : St) (Q : Ex → St → Prop) : PC A .lab st Q = Q .norm st := Eq.trans rfl rfl
theorem PC_ret (st : St) (Q : Ex → St → Prop) : PC A .ret st Q = Q .ret st := Eq.trans rfl rfl
theorem PC_exit (id : Nat) (st : St) (Q : Ex → St → Prop) : PC A (.exit id) st Q = Q (.exit id) st := Eq.trans rfl rfl
theorem PC_reg (ops : List AOper) (outs : List (Nat × Nat)) (env : List AV) (H : Heap) (Q : Ex → St → Prop) : PC A (.reg false ops outs) (env, H) Q = PO A env ops [] H (hid (fun loc H => Q .norm (applyOuts env loc outs, H)) ()) := Eq.trans rfl rfl
theorem PC_draw (ops : List AOper) (outs : List (Nat × Nat)) (env : List AV) (H : Heap) (Q : Ex → St → Prop) : PC A (.reg true ops outs) (env, H) Q = PD A env ops [] [] [] H (hid (fun loc H => Q .norm (applyOuts env loc outs, H)) ()) := Eq.trans rfl rfl
def thenC (A : AProg) (b : ACode) (Q : Ex → St → Prop) (ex : Ex) (st : St) : Prop :=
  match ex with
  | .norm => PC A b st Q
  | ex => Q ex st
theorem thenC_norm (b : ACode) (Q : Ex → St → Prop) (st : St) : thenC A b Q .norm st = PC A b st Q := Eq.trans rfl rfl
theorem thenC_ret (b : ACode) (Q : Ex → St → Prop) (st : St) : thenC A b Q .ret st = Q .ret st := Eq.trans rfl rfl
theorem thenC_exit (b : ACode) (Q : Ex → St → Prop) (st : St) (id : Nat) : thenC A b Q (.exit id) st = Q (.exit id) st := Eq.trans rfl rfl
theorem PC_seq (a b : ACode) (st : St) (Q : Ex → St → Prop) : PC A (.seq a b) st Q = PC A a st (hid (thenC A b Q) ()) := Eq.trans rfl rfl
def blockC (id : Nat) (Q : Ex → St → Prop) (ex : Ex) (st : St) : Prop :=
  match ex with
  | .exit id' => if id' = id then Q .norm st else Q (.exit id') st
  | ex => Q ex st
theorem blockC_norm (id : Nat) (Q : Ex → St → Prop) (st : St) : blockC id Q .norm st = Q .norm st := Eq.trans rfl rfl
theorem blockC_ret (id : Nat) (Q : Ex → St → Prop) (st : St) : blockC id Q .ret st = Q .ret st := Eq.trans rfl rfl
theorem blockC_exit (id id' : Nat) (Q : Ex → St → Prop) (st : St) : blockC id Q (.exit id') st = if id' = id then Q .norm st else Q (.exit id') st := Eq.trans rfl rfl
theorem PC_block (id : Nat) (b : ACode) (st : St) (Q : Ex → St → Prop) : PC A (.block id b) st Q = PC A b st (hid (blockC id Q) ()) := Eq.trans rfl rfl
theorem PC_scope (b : ACode) (st : St) (Q : Ex → St → Prop) : PC A (.scope b) st Q = PC A b st Q := Eq.trans rfl rfl
theorem PC_cond (c : AOpd) (t e : ACode) (st : St) (Q : Ex → St → Prop) : PC A (.cond c t e) st Q = KB (evalOpd st.1 [] c) (hid (PC A t st Q) ()) (hid (PC A e st Q) ()) := Eq.trans rfl rfl
def endC (F : AFn) (K : AV → Heap → Prop) (ex : Ex) (st : St) : Prop :=
  match ex with
  | .norm | .ret => ∃ vs, resVs st.1 st.2 F.res = some vs ∧ K (pack vs) st.2
  | _ => False
def resK (env : List AV) (H : Heap) (rs : List ARes) (K : AV → Heap → Prop) : Prop := ∃ vs, resVs env H rs = some vs ∧ K (pack vs) H
theorem endC_ret (F : AFn) (K : AV → Heap → Prop) (env : List AV) (H : Heap) : endC F K .ret (env, H) = resK env H F.res K := Eq.trans rfl rfl
theorem endC_norm (F : AFn) (K : AV → Heap → Prop) (env : List AV) (H : Heap) : endC F K .norm (env, H) = resK env H F.res K := Eq.trans rfl rfl
theorem resK_none (env : List AV) (H : Heap) (K : AV → Heap → Prop) : resK env H [] K = K (.tup []) H := by simp [resK, resVs, pack]
theorem resK_t (env : List AV) (H : Heap) (j : Nat) (K : AV → Heap → Prop) : resK env H [.t j] K = K (env.getD j .un) H := by simp [resK, resVs, resV, pack]
theorem resK_tt (env : List AV) (H : Heap) (i j : Nat) (K : AV → Heap → Prop) : resK env H [.t i, .t j] K = K (.tup [env.getD i .un, env.getD j .un]) H := by simp [resK, resVs, resV, pack]
def nextC (I : Nat → St → Prop) (_ : Tg I) (n : Nat) (st : St) : Prop := ∃ m, m < n ∧ I m st
def loopC (I : Nat → St → Prop) (n : Nat) (Q : Ex → St → Prop) (ex : Ex) (st : St) : Prop :=
  match ex with
  | .norm => nextC I () n st
  | ex => Q ex st
theorem loopC_norm (I : Nat → St → Prop) (n : Nat) (Q : Ex → St → Prop) (st : St) : loopC I n Q .norm st = nextC I () n st := Eq.trans rfl rfl
theorem loopC_ret (I : Nat → St → Prop) (n : Nat) (Q : Ex → St → Prop) (st : St) : loopC I n Q .ret st = Q .ret st := Eq.trans rfl rfl
theorem loopC_exit (I : Nat → St → Prop) (n id : Nat) (Q : Ex → St → Prop) (st : St) : loopC I n Q (.exit id) st = Q (.exit id) st := Eq.trans rfl rfl
theorem next_mk {I : Nat → St → Prop} {n : Nat} {st : St} (m : Nat) (hm : m < n) (h : I m st) : nextC I () n st := ⟨m, hm, h⟩
def LP (A : AProg) (b : ACode) (_ : Tg b) (st : St) (Q : Ex → St → Prop) : Prop := PC A (.loop b) st Q
theorem PC_loop (b : ACode) (st : St) (Q : Ex → St → Prop) : PC A (.loop b) st Q = LP A b () st Q := Eq.trans rfl rfl
/-- A loop: what holds at its head. -/
theorem pc_loopI {b : ACode} {st : St} {Q : Ex → St → Prop} (I : Nat → St → Prop) (n : Nat) (h0 : I n st) (hstep : ∀ n st, I n st → PC A b st (hid (loopC I n Q) ())) : LP A b () st Q := by
  show PC A (.loop b) st Q
  refine pc_loop I n h0 fun n st h => PC.mono (hstep n st h) fun e s q => ?_
  cases e <;> exact q
/-- A function's contract, out of its body. -/
theorem pcall_in {f : Nat} {F : AFn} {args : List AV} {H : Heap} {K : AV → Heap → Prop} (hx : A.ext f = none) (hF : A.fns.lookup f = some F) (hn : args.length = F.np)
    (h : PC A F.body (args ++ List.replicate (F.names.length - F.np) .un, H) (hid (endC F K) ())) : PCall A f args H K := pcall_of hx hF hn h


/-! The operations, one by one. -/
variable {rd : Nat → Option Ob}
theorem n_mv (v : AV) : nstep .mv [v] rd = some (.val v) := rfl
theorem n_pick (c : Bool) (a b : AV) : nstep .pick [.bool c, a, b] rd = some (.val (if c then a else b)) := rfl
theorem n_bin (op : BinOp) (x y : AV) : nstep (.bin op) [x, y] rd = (binV op x y).map .val := rfl
theorem n_eqB (neg a b : Bool) : nstep (.eqB neg) [.bool a, .bool b] rd = some (.val (.bool ((a == b) != neg))) := rfl
theorem n_eqN (k : Nat) (neg : Bool) (x y : AV) : nstep (.eqN k neg) [x, y] rd = (match x.isNilK k, y.isNilK k with
          | some a, some b => if a || b then some (.val (.bool ((a && b) != neg))) else none
          | _, _ => none) := rfl
theorem n_eqS (ks : List Nat) (neg : Bool) (x y : List AV) : nstep (.eqS ks neg) [.agg x, .agg y] rd = (eqScs ks x y).map fun b => .val (.bool (b != neg)) := rfl
theorem n_un (op : UnOp) (x : AV) : nstep (.un op) [x] rd = (unV op x).map .val := rfl
theorem n_conv (k k' : IntKind) (n : Int) : nstep (.conv k) [.int k' n] rd = some (.val (.int k (k.wrap n))) := rfl
theorem n_fadd (off b g o : Nat) : nstep (.fadd off) [.ptr b g o] rd = some (.val (.ptr b g (o + off))) := rfl
theorem n_fld1 (off : Nat) (xs : List AV) : nstep (.fld1 off) [.agg xs] rd = (xs[off]?).map .val := rfl
theorem n_fldN (off n : Nat) (xs : List AV) : nstep (.fldN off n) [.agg xs] rd = if off + n ≤ xs.length then some (.val (.agg ((xs.drop off).take n))) else none := rfl
theorem n_idx (sz b g o n s2 cl : Nat) (ex : Bool) (k : IntKind) (i : Int) : nstep (.idx sz) [.sl b g o n s2 cl ex, .int k i] rd = if 0 ≤ i ∧ i < (n : Int) then some (.val (.ptr b g (o + i.toNat * sz))) else none := rfl
theorem n_idxA (len sz b g o : Nat) (k : IntKind) (i : Int) : nstep (.idxA len sz) [.ptr b g o, .int k i] rd = if 0 ≤ i ∧ i < (len : Int) then some (.val (.ptr b g (o + i.toNat * sz))) else none := rfl
theorem n_ext (i : Nat) (xs : List AV) : nstep (.ext i) [.tup xs] rd = (xs[i]?).map .val := rfl
theorem n_lenS (b g o n s2 cl : Nat) (ex : Bool) : nstep .lenS [.sl b g o n s2 cl ex] rd = some (.val (.int .i64 n)) := rfl
theorem n_lenS0 : nstep .lenS [.nils] rd = some (.val (.int .i64 0)) := rfl
theorem n_lenT (s : ByteArray) : nstep .lenT [.str s] rd = some (.val (.int .i64 s.size)) := rfl
theorem n_lenA (n : Nat) (v : AV) : nstep (.lenA n) [v] rd = some (.val (.int .i64 n)) := rfl
theorem n_min (x : AV) (xs : List AV) : nstep .min (x :: xs) rd = (foldV minV x xs).map .val := rfl
theorem n_max (x : AV) (xs : List AV) : nstep .max (x :: xs) rd = (foldV maxV x xs).map .val := rfl
theorem n_build (z : List AV) (ps : List (Nat × Nat)) (vs : List AV) : nstep (.build z ps) vs rd = (fillA ps vs z).map fun c => .val (.agg c) := rfl
theorem n_mkfn (fn : Fn) (n : Nat) (vs : List AV) : nstep (.mkfn fn n) vs rd = some (.val (.fn fn (vs.take n) (vs.drop n))) := rfl
theorem n_slc (sz : Nat) (lo hi mx : Bool) (b g o n cl : Nat) (ex : Bool) (r : List AV) : nstep (.slc sz lo hi mx) (.sl b g o n sz cl ex :: r) rd = (bounds3 n cl lo hi mx r).map fun (l, h, m) => .val (.sl b g (o + l * sz) (h - l) sz (m - l) (ex || mx)) := by simp [nstep]
theorem n_slc0 (sz : Nat) (lo hi mx : Bool) (r : List AV) : nstep (.slc sz lo hi mx) (.nils :: r) rd = (match bounds3 0 0 lo hi mx r with
          | some (0, 0, 0) => some (.val .nils)
          | _ => none) := rfl
theorem n_slcA (len sz b g o : Nat) (lo hi : Bool) (r : List AV) : nstep (.slcA len sz lo hi) (.ptr b g o :: r) rd = (bounds3 len len lo hi false r).map fun (l, h, m) => .val (.sl b g (o + l * sz) (h - l) sz (m - l) true) := rfl
theorem n_idxV (sz n s2 : Nat) (xs : List AV) (k : IntKind) (i : Int) : nstep (.idx sz) [.vs n s2 xs, .int k i] rd = if s2 = sz ∧ 0 < sz ∧ 0 ≤ i ∧ i < (n : Int) then some (.val (.vp xs (i.toNat * sz))) else none := rfl
theorem n_idxAV (len sz o : Nat) (xs : List AV) (k : IntKind) (i : Int) : nstep (.idxA len sz) [.vp xs o, .int k i] rd = if 0 ≤ i ∧ i < (len : Int) then some (.val (.vp xs (o + i.toNat * sz))) else none := rfl
theorem n_faddV (off o : Nat) (xs : List AV) : nstep (.fadd off) [.vp xs o] rd = some (.val (.vp xs (o + off))) := rfl
theorem n_lenV (n sz : Nat) (xs : List AV) : nstep .lenS [.vs n sz xs] rd = some (.val (.int .i64 n)) := rfl
theorem n_nilcP (b g o : Nat) : nstep .nilc [.ptr b g o] rd = some (.val (.ptr b g o)) := rfl
theorem n_nilcV (xs : List AV) (o : Nat) : nstep .nilc [.vp xs o] rd = some (.val (.vp xs o)) := rfl
theorem n_nilcI (t : TypeId) (v : AV) : nstep .nilc [.iface t v] rd = some (.val (.iface t v)) := rfl
theorem n_nilcF (f : Nat) (a b : List AV) : nstep .nilc [.fn (.func f) a b] rd = some (.val (.fn (.func f) a b)) := rfl
theorem n_slcV (sz : Nat) (lo hi mx : Bool) (n : Nat) (xs r : List AV) : nstep (.slc sz lo hi mx) (.vs n sz xs :: r) rd = (bounds3 n n lo hi mx r).map fun (l, h, m) => .val (if mx ∧ m = l then .sl 0 0 0 0 sz 0 true else .vs (h - l) sz ((xs.drop (l * sz)).take ((h - l) * sz))) := by simp [nstep]
theorem n_load1V (xs : List AV) (o : Nat) : nstep .load1 [.vp xs o] rd = (xs[o]?).map .val := rfl
theorem n_loadNV (n : Nat) (xs : List AV) (o : Nat) : nstep (.loadN n) [.vp xs o] rd = if o + n ≤ xs.length then some (.val (.agg ((xs.drop o).take n))) else none := rfl
theorem src_vs (H : Heap) (n sz : Nat) (xs : List AV) : srcCells H sz (.vs n sz xs) = some (n, xs) := by simp [srcCells]
theorem src_nil (H : Heap) (sz : Nat) : srcCells H sz .nils = some (0, []) := rfl
theorem closeds_nil : AV.closeds [] = true := Eq.trans rfl rfl
theorem closeds_cons (x : AV) (xs : List AV) : AV.closeds (x :: xs) = (x.closed && AV.closeds xs) := Eq.trans rfl rfl
theorem closed_bool (b : Bool) : AV.closed (.bool b) = true := Eq.trans rfl rfl
theorem closed_int (k : IntKind) (n : Int) : AV.closed (.int k n) = true := Eq.trans rfl rfl
theorem closed_str (s : ByteArray) : AV.closed (.str s) = true := Eq.trans rfl rfl
theorem closed_nilp : AV.closed .nilp = true := Eq.trans rfl rfl
theorem closed_nils : AV.closed .nils = true := Eq.trans rfl rfl
theorem closed_nilm : AV.closed .nilm = true := Eq.trans rfl rfl
theorem closed_nilf : AV.closed .nilf = true := Eq.trans rfl rfl
theorem closed_nili : AV.closed .nili = true := Eq.trans rfl rfl
theorem closed_agg (xs : List AV) : AV.closed (.agg xs) = AV.closeds xs := Eq.trans rfl rfl
theorem closed_tup (xs : List AV) : AV.closed (.tup xs) = AV.closeds xs := Eq.trans rfl rfl
theorem closed_vs (n sz : Nat) (xs : List AV) : AV.closed (.vs n sz xs) = AV.closeds xs := Eq.trans rfl rfl
theorem closed_vp (o : Nat) (xs : List AV) : AV.closed (.vp xs o) = AV.closeds xs := Eq.trans rfl rfl
theorem closed_iface (t : TypeId) (v : AV) : AV.closed (.iface t v) = v.closed := Eq.trans rfl rfl
theorem closed_fn (f : Fn) (x y : List AV) : AV.closed (.fn f x y) = (AV.closeds x && AV.closeds y) := Eq.trans rfl rfl
theorem one_vs (n sz : Nat) (xs : List AV) : AV.one (.vs n sz xs) = true := rfl
theorem cells_vs (n sz : Nat) (xs : List AV) : AV.cells (.vs n sz xs) = [.vs n sz xs] := rfl
theorem one_vp (xs : List AV) (o : Nat) : AV.one (.vp xs o) = true := rfl
theorem cells_vp (xs : List AV) (o : Nat) : AV.cells (.vp xs o) = [.vp xs o] := rfl
theorem n_load1 (b g o : Nat) : nstep .load1 [.ptr b g o] rd = (match rd b with
          | some (.cells g' _ c) => if g' = g then (c[o]?).map .val else none
          | _ => none) := rfl
theorem n_loadN (n b g o : Nat) : nstep (.loadN n) [.ptr b g o] rd = (match rd b with
          | some (.cells g' _ c) => if g' = g ∧ o + n ≤ c.length then some (.val (.agg ((c.drop o).take n))) else none
          | _ => none) := rfl
theorem n_alloc (z : List AV) : nstep (.alloc z) [] rd = some (.new (.cells 0 false z) fun b => .ptr b 0 0) := rfl
theorem n_box (v : AV) : nstep .box [v] rd = if v.cells.all (·.one) then some (.new (.cells 0 false v.cells) fun b => .ptr b 0 0) else none := rfl
theorem n_bsl (z : List AV) (n sz : Nat) (ps : List (Nat × Nat)) (vs : List AV) : nstep (.bsl z n sz ps) vs rd = (fillA ps vs (repA z n)).map fun c => .new (.cells 0 false c) fun b => .sl b 0 0 n sz n true := rfl
theorem n_mksl (z : List AV) (sz bytes : Nat) (k k' : IntKind) (l c : Int) : nstep (.mksl z sz bytes) [.int k l, .int k' c] rd = if 0 ≤ l ∧ l ≤ c ∧ c ≤ 4294967296 ∧ c * (bytes : Int) ≤ 140737488355328 then some (.new (.cells 0 false (repA z c.toNat)) fun b => .sl b 0 0 l.toNat sz c.toNat true) else none := rfl
theorem x_store (n b g o : Nat) (v : AV) (H : Heap) : xstep (.store n) [.ptr b g o, v] H = (match H[b]? with
      | some (.cells g' false c) => if g' = g ∧ v.cells.length = n ∧ v.cells.all (·.one) = true ∧ o + n ≤ c.length then some (.un, H.set b (.cells g false (setAt c o v.cells))) else none
      | _ => none) := rfl
theorem x_clear0 (sz : Nat) (z : List AV) (H : Heap) : xstep (.clear sz z) [.nils] H = some (.tup [], H) := rfl
theorem x_clear (sz : Nat) (z : List AV) (b g o n sz' cl : Nat) (ex : Bool) (H : Heap) : xstep (.clear sz z) [.sl b g o n sz' cl ex] H = if n = 0 then some (.tup [], H) else (match H[b]? with
      | some (.cells g' false c) => if g' = g ∧ sz' = sz ∧ z.all (·.one) = true ∧ o + n * sz ≤ c.length then some (.tup [], H.set b (.cells g false (setAt c o (repA z n)))) else none
      | _ => none) := rfl
/-- All that lay lies as it lay. -/
theorem prefix_of {P H : Heap} (h1 : P.length ≤ H.length) (h2 : ∀ b, b < P.length → H[b]? = P[b]?) : ∃ J, H = P ++ J := by
  refine ⟨H.drop P.length, ?_⟩
  apply List.ext_getElem?
  intro i
  rw [List.getElem?_append]
  split
  · rename_i h; exact h2 i h
  · rw [List.getElem?_drop]; congr 1; omega
theorem take2 {c : List AV} {k : Nat} {x y : AV} (h1 : c[k]? = some x) (h2 : c[k + 1]? = some y) : (c.drop k).take 2 = [x, y] := by
  obtain ⟨l1, e1⟩ := List.getElem?_eq_some_iff.1 h1
  obtain ⟨l2, e2⟩ := List.getElem?_eq_some_iff.1 h2
  rw [List.drop_eq_getElem_cons l1, List.drop_eq_getElem_cons l2, e1, e2]; rfl
theorem setAt_2 (a b x y : AV) : setAt [a, b] 0 [x, y] = [x, y] := rfl
theorem setAt_1 (a x : AV) : setAt [a] 0 [x] = [x] := rfl
end Go.Ai
/- The numbers of this seat for the functions. Written by a program of this session. -/
namespace Go.Proofs.Ytmekjhnlmoidpaa.M
open Go.Ai Go.Ai.G
set_option maxRecDepth 100000
def tbl : List (Nat × Nat) := [(1, 40), (2, 38), (4, 34), (6, 35), (9, 25), (10, 36), (11, 31), (15, 26), (22, 24), (25, 27), (27, 46), (28, 48), (29, 47), (30, 37), (31, 44), (32, 41), (35, 60), (36, 59), (37, 67), (59, 10), (60, 11), (61, 12), (62, 13), (63, 14), (64, 15), (65, 16), (66, 17), (67, 18), (68, 20), (69, 21), (70, 19), (71, 3), (72, 22), (73, 23), (74, 4), (75, 5), (76, 6), (77, 7), (78, 8), (79, 9), (80, 28), (81, 29), (82, 30), (83, 33)]
def φs (i : Nat) : Nat := (tbl.lookup i).getD 0
def fns : List (Nat × AFn) := [(40, f1 φs), (38, f2 φs), (34, f4 φs), (35, f6 φs), (36, f10 φs), (31, f11 φs), (26, f15 φs), (24, f22 φs), (27, f25 φs), (48, f28 φs), (47, f29 φs), (37, f30 φs), (44, f31 φs), (41, f32 φs), (60, f35 φs), (59, f36 φs), (67, f37 φs), (10, f59 φs), (11, f60 φs), (12, f61 φs), (13, f62 φs), (14, f63 φs), (15, f64 φs), (16, f65 φs), (17, f66 φs), (18, f67 φs), (21, f69 φs), (19, f70 φs), (3, f71 φs), (22, f72 φs), (23, f73 φs), (4, f74 φs), (5, f75 φs), (6, f76 φs), (7, f77 φs), (8, f78 φs), (9, f79 φs), (28, f80 φs), (29, f81 φs), (30, f82 φs), (33, f83 φs)]
end Go.Proofs.Ytmekjhnlmoidpaa.M
