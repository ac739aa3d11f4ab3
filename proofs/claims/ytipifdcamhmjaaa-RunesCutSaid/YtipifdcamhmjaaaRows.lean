/-
  No cell of these rows narrows 'for every input' (looked for: loops, veiled, ifaces, maps, wideKeys, modest, calm, conditions, laid).
  DERIVED. THE GIVEN ROWS OF THIS SEAT. 7 by the template 'for every input the law returns true; each argument reads behind the call as it read before'; 0 by the template 'total and deterministic' (their statements: YtipifdcamhmjaaaTotals.lean).
  GIVEN WITH THE SEED: the statements are not yours to turn. If you find one false, say at which input.
  Laid BY PROGRAM, IN A SANDBOX (cutbox-rows.mjs): the forced cells as the released guide's own fill.sh prints them over the translation 91930868f83ef613… (all of the seat's roots in one cut). By AI agents, Wed Nov 11 2026. No macro, syntax, notation, axiom, sorry.
-/
import Derived.Test.YtipifdcamhmjaaaChecked
import GoSem.Claim
import GoSem.ClaimJoined
import GoSem.ClaimMapViews
import Derived.JoinedTies
import Derived.KernelRfl
namespace Go.Proofs.Ytipifdcamhmjaaa
/- THE CELL 'sum', in the pinned program and in every row, IS THE sha256 OF THE DUMP (.gsa) THAT YtipifdcamhmjaaaProg.lean LOADS. Nothing in Lean hashes anything: it is a label: what it is worth is what the hold of that sum in a sandbox is worth. -/
noncomputable def Try.pinned : Pinned := { name := "ytipifdcamhmjaaa", sum := "91930868f83ef61381d6bbaccef418f7f67b3d2fa44b895ffd145030bfc40b42", checked := Try.checked }
namespace Rows
def none {H : Type} : Left H := { results := [], args := [] }

/-- 'carcanetlaw01.RunesTell': WHATEVER THE INPUT: true; the input reads as it did. -/
def runesTellSpec : ChangeSpec := { name := "runesTell", fn := fun _ => fun
  | [d] => { results := [.lit (.bool true)], args := [d] }
  | _ => none }
def runesTellRow : OpenClaim := { program := "ytipifdcamhmjaaa", sum := "91930868f83ef61381d6bbaccef418f7f67b3d2fa44b895ffd145030bfc40b42", func := "carcanet/carcanetlaw01.RunesTell", spec := "runesTell", apart := false }
def RunesTellSaid : Prop := runesTellRow.holds Try.pinned (OpenSpec.ofChange runesTellSpec)

/-- ITS FALSE NEIGHBOUR: 'it returns false'. Refute it at one input. -/
def runesTellWrong : ChangeSpec := { name := "runesTell", fn := fun _ => fun
  | [d] => { results := [.lit (.bool false)], args := [d] }
  | _ => none }
def RunesTellWrongFalsely : Prop := runesTellRow.holds Try.pinned (OpenSpec.ofChange runesTellWrong)

/-- 'carcanetlaw01.RunesEncode': WHATEVER THE INPUT: true; the input reads as it did. -/
def runesEncodeSpec : ChangeSpec := { name := "runesEncode", fn := fun _ => fun
  | [d] => { results := [.lit (.bool true)], args := [d] }
  | _ => none }
def runesEncodeRow : OpenClaim := { program := "ytipifdcamhmjaaa", sum := "91930868f83ef61381d6bbaccef418f7f67b3d2fa44b895ffd145030bfc40b42", func := "carcanet/carcanetlaw01.RunesEncode", spec := "runesEncode", apart := false }
def RunesEncodeSaid : Prop := runesEncodeRow.holds Try.pinned (OpenSpec.ofChange runesEncodeSpec)

/-- ITS FALSE NEIGHBOUR: 'it returns false'. Refute it at one input. -/
def runesEncodeWrong : ChangeSpec := { name := "runesEncode", fn := fun _ => fun
  | [d] => { results := [.lit (.bool false)], args := [d] }
  | _ => none }
def RunesEncodeWrongFalsely : Prop := runesEncodeRow.holds Try.pinned (OpenSpec.ofChange runesEncodeWrong)

/-- 'carcanetlaw01.RunesKinds': WHATEVER THE INPUT: true; the input reads as it did. -/
def runesKindsSpec : ChangeSpec := { name := "runesKinds", fn := fun _ => fun
  | [d] => { results := [.lit (.bool true)], args := [d] }
  | _ => none }
def runesKindsRow : OpenClaim := { program := "ytipifdcamhmjaaa", sum := "91930868f83ef61381d6bbaccef418f7f67b3d2fa44b895ffd145030bfc40b42", func := "carcanet/carcanetlaw01.RunesKinds", spec := "runesKinds", apart := false }
def RunesKindsSaid : Prop := runesKindsRow.holds Try.pinned (OpenSpec.ofChange runesKindsSpec)

/-- ITS FALSE NEIGHBOUR: 'it returns false'. Refute it at one input. -/
def runesKindsWrong : ChangeSpec := { name := "runesKinds", fn := fun _ => fun
  | [d] => { results := [.lit (.bool false)], args := [d] }
  | _ => none }
def RunesKindsWrongFalsely : Prop := runesKindsRow.holds Try.pinned (OpenSpec.ofChange runesKindsWrong)

/-- 'carcanetlaw01.RunesBack': WHATEVER THE INPUT: true; the input reads as it did. -/
def runesBackSpec : ChangeSpec := { name := "runesBack", fn := fun _ => fun
  | [d] => { results := [.lit (.bool true)], args := [d] }
  | _ => none }
def runesBackRow : OpenClaim := { program := "ytipifdcamhmjaaa", sum := "91930868f83ef61381d6bbaccef418f7f67b3d2fa44b895ffd145030bfc40b42", func := "carcanet/carcanetlaw01.RunesBack", spec := "runesBack", apart := false }
def RunesBackSaid : Prop := runesBackRow.holds Try.pinned (OpenSpec.ofChange runesBackSpec)

/-- ITS FALSE NEIGHBOUR: 'it returns false'. Refute it at one input. -/
def runesBackWrong : ChangeSpec := { name := "runesBack", fn := fun _ => fun
  | [d] => { results := [.lit (.bool false)], args := [d] }
  | _ => none }
def RunesBackWrongFalsely : Prop := runesBackRow.holds Try.pinned (OpenSpec.ofChange runesBackWrong)

/-- 'carcanetlaw01.RunesForth': WHATEVER THE INPUT: true; the input reads as it did. -/
def runesForthSpec : ChangeSpec := { name := "runesForth", fn := fun _ => fun
  | [d] => { results := [.lit (.bool true)], args := [d] }
  | _ => none }
def runesForthRow : OpenClaim := { program := "ytipifdcamhmjaaa", sum := "91930868f83ef61381d6bbaccef418f7f67b3d2fa44b895ffd145030bfc40b42", func := "carcanet/carcanetlaw01.RunesForth", spec := "runesForth", apart := false }
def RunesForthSaid : Prop := runesForthRow.holds Try.pinned (OpenSpec.ofChange runesForthSpec)

/-- ITS FALSE NEIGHBOUR: 'it returns false'. Refute it at one input. -/
def runesForthWrong : ChangeSpec := { name := "runesForth", fn := fun _ => fun
  | [d] => { results := [.lit (.bool false)], args := [d] }
  | _ => none }
def RunesForthWrongFalsely : Prop := runesForthRow.holds Try.pinned (OpenSpec.ofChange runesForthWrong)

/-- 'carcanetlaw01.RunesCut': WHATEVER THE INPUT: true; the input reads as it did. -/
def runesCutSpec : ChangeSpec := { name := "runesCut", fn := fun _ => fun
  | [d1, d2] => { results := [.lit (.bool true)], args := [d1, d2] }
  | _ => none }
def runesCutRow : OpenClaim := { program := "ytipifdcamhmjaaa", sum := "91930868f83ef61381d6bbaccef418f7f67b3d2fa44b895ffd145030bfc40b42", func := "carcanet/carcanetlaw01.RunesCut", spec := "runesCut", apart := false }
def RunesCutSaid : Prop := runesCutRow.holds Try.pinned (OpenSpec.ofChange runesCutSpec)

/-- ITS FALSE NEIGHBOUR: 'it returns false'. Refute it at one input. -/
def runesCutWrong : ChangeSpec := { name := "runesCut", fn := fun _ => fun
  | [d1, d2] => { results := [.lit (.bool false)], args := [d1, d2] }
  | _ => none }
def RunesCutWrongFalsely : Prop := runesCutRow.holds Try.pinned (OpenSpec.ofChange runesCutWrong)

/-- 'carcanetlaw01.RunesJoin': WHATEVER THE INPUT: true; the input reads as it did. -/
def runesJoinSpec : ChangeSpec := { name := "runesJoin", fn := fun _ => fun
  | [d1, d2] => { results := [.lit (.bool true)], args := [d1, d2] }
  | _ => none }
def runesJoinRow : OpenClaim := { program := "ytipifdcamhmjaaa", sum := "91930868f83ef61381d6bbaccef418f7f67b3d2fa44b895ffd145030bfc40b42", func := "carcanet/carcanetlaw01.RunesJoin", spec := "runesJoin", apart := false }
def RunesJoinSaid : Prop := runesJoinRow.holds Try.pinned (OpenSpec.ofChange runesJoinSpec)

/-- ITS FALSE NEIGHBOUR: 'it returns false'. Refute it at one input. -/
def runesJoinWrong : ChangeSpec := { name := "runesJoin", fn := fun _ => fun
  | [d1, d2] => { results := [.lit (.bool false)], args := [d1, d2] }
  | _ => none }
def RunesJoinWrongFalsely : Prop := runesJoinRow.holds Try.pinned (OpenSpec.ofChange runesJoinWrong)

/- THE SECOND FORM. 'bulk': how many values and letters a reading holds, each counted each time it is reached (what is shared counts as often as it is met; a slice's spare places count too). A statement '..UptoSaid' is the law's where the arguments, and the package variables that the reading takes, are together of bulk at most 1048576: NARROWER than '..Said'. Prove '..Said' where nothing that the law and all that it calls make is longer than what came in: it says more and counts as full. Else prove '..UptoSaid'. A law counts once. -/
mutual
def uptoBulk {H : Type} : DataW H → Nat
  | .lit (.string bytes) => bytes.length + 1
  | .lit _ => 1
  | .nil => 1
  | .ptr d => uptoBulk d + 1
  | .slice elems spare => uptoBulkAll elems + uptoBulkAll spare + 1
  | .agg parts => uptoBulkAll parts + 1
  | .iface _ d => uptoBulk d + 1
  | .map entries => uptoBulkEntries entries + 1
  | .held _ => 1
def uptoBulkAll {H : Type} : List (DataW H) → Nat
  | [] => 0
  | d :: r => uptoBulk d + uptoBulkAll r
def uptoBulkEntries {H : Type} : List (Lit × DataW H) → Nat
  | [] => 0
  | x :: r => uptoBulkEntry x + uptoBulkEntries r
def uptoBulkEntry {H : Type} : Lit × DataW H → Nat
  | (.string bytes, d) => bytes.length + uptoBulk d + 1
  | (_, d) => uptoBulk d + 1
 end
def uptoSmall : (H : Type) → List (DataW H) → Bool := fun _ ds => decide (uptoBulkAll ds ≤ 1048576)
def OpenSpec.upto (s : _root_.Go.ChangeSpec) : _root_.Go.OpenSpec := { _root_.Go.OpenSpec.ofChange s with cond := some uptoSmall }

/-- 'carcanetlaw01.RunesTell', WHERE WHAT IT READS IS OF BULK AT MOST 1048576: true; the input reads as it did. -/
def runesTellUptoRow : OpenClaim := { program := "ytipifdcamhmjaaa", sum := "91930868f83ef61381d6bbaccef418f7f67b3d2fa44b895ffd145030bfc40b42", func := "carcanet/carcanetlaw01.RunesTell", spec := "runesTell", apart := false, narrowed := true }
def RunesTellUptoSaid : Prop := runesTellUptoRow.holds Try.pinned (OpenSpec.upto runesTellSpec)

/-- 'carcanetlaw01.RunesEncode', WHERE WHAT IT READS IS OF BULK AT MOST 1048576: true; the input reads as it did. -/
def runesEncodeUptoRow : OpenClaim := { program := "ytipifdcamhmjaaa", sum := "91930868f83ef61381d6bbaccef418f7f67b3d2fa44b895ffd145030bfc40b42", func := "carcanet/carcanetlaw01.RunesEncode", spec := "runesEncode", apart := false, narrowed := true }
def RunesEncodeUptoSaid : Prop := runesEncodeUptoRow.holds Try.pinned (OpenSpec.upto runesEncodeSpec)

/-- 'carcanetlaw01.RunesKinds', WHERE WHAT IT READS IS OF BULK AT MOST 1048576: true; the input reads as it did. -/
def runesKindsUptoRow : OpenClaim := { program := "ytipifdcamhmjaaa", sum := "91930868f83ef61381d6bbaccef418f7f67b3d2fa44b895ffd145030bfc40b42", func := "carcanet/carcanetlaw01.RunesKinds", spec := "runesKinds", apart := false, narrowed := true }
def RunesKindsUptoSaid : Prop := runesKindsUptoRow.holds Try.pinned (OpenSpec.upto runesKindsSpec)

/-- 'carcanetlaw01.RunesBack', WHERE WHAT IT READS IS OF BULK AT MOST 1048576: true; the input reads as it did. -/
def runesBackUptoRow : OpenClaim := { program := "ytipifdcamhmjaaa", sum := "91930868f83ef61381d6bbaccef418f7f67b3d2fa44b895ffd145030bfc40b42", func := "carcanet/carcanetlaw01.RunesBack", spec := "runesBack", apart := false, narrowed := true }
def RunesBackUptoSaid : Prop := runesBackUptoRow.holds Try.pinned (OpenSpec.upto runesBackSpec)

/-- 'carcanetlaw01.RunesForth', WHERE WHAT IT READS IS OF BULK AT MOST 1048576: true; the input reads as it did. -/
def runesForthUptoRow : OpenClaim := { program := "ytipifdcamhmjaaa", sum := "91930868f83ef61381d6bbaccef418f7f67b3d2fa44b895ffd145030bfc40b42", func := "carcanet/carcanetlaw01.RunesForth", spec := "runesForth", apart := false, narrowed := true }
def RunesForthUptoSaid : Prop := runesForthUptoRow.holds Try.pinned (OpenSpec.upto runesForthSpec)

/-- 'carcanetlaw01.RunesCut', WHERE WHAT IT READS IS OF BULK AT MOST 1048576: true; the input reads as it did. -/
def runesCutUptoRow : OpenClaim := { program := "ytipifdcamhmjaaa", sum := "91930868f83ef61381d6bbaccef418f7f67b3d2fa44b895ffd145030bfc40b42", func := "carcanet/carcanetlaw01.RunesCut", spec := "runesCut", apart := false, narrowed := true }
def RunesCutUptoSaid : Prop := runesCutUptoRow.holds Try.pinned (OpenSpec.upto runesCutSpec)

/-- 'carcanetlaw01.RunesJoin', WHERE WHAT IT READS IS OF BULK AT MOST 1048576: true; the input reads as it did. -/
def runesJoinUptoRow : OpenClaim := { program := "ytipifdcamhmjaaa", sum := "91930868f83ef61381d6bbaccef418f7f67b3d2fa44b895ffd145030bfc40b42", func := "carcanet/carcanetlaw01.RunesJoin", spec := "runesJoin", apart := false, narrowed := true }
def RunesJoinUptoSaid : Prop := runesJoinUptoRow.holds Try.pinned (OpenSpec.upto runesJoinSpec)

end Rows
end Go.Proofs.Ytipifdcamhmjaaa
