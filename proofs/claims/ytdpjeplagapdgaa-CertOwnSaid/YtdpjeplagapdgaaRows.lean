/-
  No cell of these rows narrows 'for every input' (looked for: loops, veiled, ifaces, maps, wideKeys, modest, calm, conditions, laid).
  DERIVED. THE GIVEN ROWS OF THIS SEAT. 7 by the template 'for every input the law returns true; each argument reads behind the call as it read before'; 0 by the template 'total and deterministic' (their statements: YtdpjeplagapdgaaTotals.lean).
  GIVEN WITH THE SEED: the statements are not yours to turn. If you find one false, say at which input.
  Laid BY PROGRAM, IN A SANDBOX (cutbox-rows.mjs): the forced cells as the released guide's own fill.sh prints them over the translation ea652d7ace6e2f5f… (all of the seat's roots in one cut). By AI agents, Wed Nov 11 2026. No macro, syntax, notation, axiom, sorry.
-/
import Derived.Test.YtdpjeplagapdgaaChecked
import GoSem.Claim
import GoSem.ClaimJoined
import GoSem.ClaimMapViews
import Derived.JoinedTies
import Derived.KernelRfl
namespace Go.Proofs.Ytdpjeplagapdgaa
/- THE CELL 'sum', in the pinned program and in every row, IS THE sha256 OF THE DUMP (.gsa) THAT YtdpjeplagapdgaaProg.lean LOADS. Nothing in Lean hashes anything: it is a label: what it is worth is what the hold of that sum in a sandbox is worth. -/
noncomputable def Try.pinned : Pinned := { name := "ytdpjeplagapdgaa", sum := "ea652d7ace6e2f5f33d681e0b8469f51a98729fedd9ec46b3624de6f4d2cc798", checked := Try.checked }
namespace Rows
def none {H : Type} : Left H := { results := [], args := [] }

/-- 'carcanetlaw22.CertReads': WHATEVER THE INPUT: true; the input reads as it did. -/
def certReadsSpec : ChangeSpec := { name := "certReads", fn := fun _ => fun
  | [d] => { results := [.lit (.bool true)], args := [d] }
  | _ => none }
def certReadsRow : OpenClaim := { program := "ytdpjeplagapdgaa", sum := "ea652d7ace6e2f5f33d681e0b8469f51a98729fedd9ec46b3624de6f4d2cc798", func := "carcanet/carcanetlaw22.CertReads", spec := "certReads", unfollowed := true, recurses := true, apart := false }
def CertReadsSaid : Prop := certReadsRow.holds Try.pinned (OpenSpec.ofChange certReadsSpec)

/-- ITS FALSE NEIGHBOUR: 'it returns false'. Refute it at one input. -/
def certReadsWrong : ChangeSpec := { name := "certReads", fn := fun _ => fun
  | [d] => { results := [.lit (.bool false)], args := [d] }
  | _ => none }
def CertReadsWrongFalsely : Prop := certReadsRow.holds Try.pinned (OpenSpec.ofChange certReadsWrong)

/-- 'carcanetlaw22.CertPages': WHATEVER THE INPUT: true; the input reads as it did. -/
def certPagesSpec : ChangeSpec := { name := "certPages", fn := fun _ => fun
  | [d1, d2, d3] => { results := [.lit (.bool true)], args := [d1, d2, d3] }
  | _ => none }
def certPagesRow : OpenClaim := { program := "ytdpjeplagapdgaa", sum := "ea652d7ace6e2f5f33d681e0b8469f51a98729fedd9ec46b3624de6f4d2cc798", func := "carcanet/carcanetlaw22.CertPages", spec := "certPages", unfollowed := true, recurses := true, apart := false }
def CertPagesSaid : Prop := certPagesRow.holds Try.pinned (OpenSpec.ofChange certPagesSpec)

/-- ITS FALSE NEIGHBOUR: 'it returns false'. Refute it at one input. -/
def certPagesWrong : ChangeSpec := { name := "certPages", fn := fun _ => fun
  | [d1, d2, d3] => { results := [.lit (.bool false)], args := [d1, d2, d3] }
  | _ => none }
def CertPagesWrongFalsely : Prop := certPagesRow.holds Try.pinned (OpenSpec.ofChange certPagesWrong)

/-- 'carcanetlaw22.CertBar': WHATEVER THE INPUT: true; the input reads as it did. -/
def certBarSpec : ChangeSpec := { name := "certBar", fn := fun _ => fun
  | [d] => { results := [.lit (.bool true)], args := [d] }
  | _ => none }
def certBarRow : OpenClaim := { program := "ytdpjeplagapdgaa", sum := "ea652d7ace6e2f5f33d681e0b8469f51a98729fedd9ec46b3624de6f4d2cc798", func := "carcanet/carcanetlaw22.CertBar", spec := "certBar", unfollowed := true, recurses := true, apart := false }
def CertBarSaid : Prop := certBarRow.holds Try.pinned (OpenSpec.ofChange certBarSpec)

/-- ITS FALSE NEIGHBOUR: 'it returns false'. Refute it at one input. -/
def certBarWrong : ChangeSpec := { name := "certBar", fn := fun _ => fun
  | [d] => { results := [.lit (.bool false)], args := [d] }
  | _ => none }
def CertBarWrongFalsely : Prop := certBarRow.holds Try.pinned (OpenSpec.ofChange certBarWrong)

/-- 'carcanetlaw22.CertNarrow': WHATEVER THE INPUT: true; the input reads as it did. -/
def certNarrowSpec : ChangeSpec := { name := "certNarrow", fn := fun _ => fun
  | [d1, d2, d3] => { results := [.lit (.bool true)], args := [d1, d2, d3] }
  | _ => none }
def certNarrowRow : OpenClaim := { program := "ytdpjeplagapdgaa", sum := "ea652d7ace6e2f5f33d681e0b8469f51a98729fedd9ec46b3624de6f4d2cc798", func := "carcanet/carcanetlaw22.CertNarrow", spec := "certNarrow", unfollowed := true, recurses := true, apart := false }
def CertNarrowSaid : Prop := certNarrowRow.holds Try.pinned (OpenSpec.ofChange certNarrowSpec)

/-- ITS FALSE NEIGHBOUR: 'it returns false'. Refute it at one input. -/
def certNarrowWrong : ChangeSpec := { name := "certNarrow", fn := fun _ => fun
  | [d1, d2, d3] => { results := [.lit (.bool false)], args := [d1, d2, d3] }
  | _ => none }
def CertNarrowWrongFalsely : Prop := certNarrowRow.holds Try.pinned (OpenSpec.ofChange certNarrowWrong)

/-- 'carcanetlaw22.CertCut': WHATEVER THE INPUT: true; the input reads as it did. -/
def certCutSpec : ChangeSpec := { name := "certCut", fn := fun _ => fun
  | [d1, d2, d3] => { results := [.lit (.bool true)], args := [d1, d2, d3] }
  | _ => none }
def certCutRow : OpenClaim := { program := "ytdpjeplagapdgaa", sum := "ea652d7ace6e2f5f33d681e0b8469f51a98729fedd9ec46b3624de6f4d2cc798", func := "carcanet/carcanetlaw22.CertCut", spec := "certCut", unfollowed := true, recurses := true, apart := false }
def CertCutSaid : Prop := certCutRow.holds Try.pinned (OpenSpec.ofChange certCutSpec)

/-- ITS FALSE NEIGHBOUR: 'it returns false'. Refute it at one input. -/
def certCutWrong : ChangeSpec := { name := "certCut", fn := fun _ => fun
  | [d1, d2, d3] => { results := [.lit (.bool false)], args := [d1, d2, d3] }
  | _ => none }
def CertCutWrongFalsely : Prop := certCutRow.holds Try.pinned (OpenSpec.ofChange certCutWrong)

/-- 'carcanetlaw22.CertAsks': WHATEVER THE INPUT: true; the input reads as it did. -/
def certAsksSpec : ChangeSpec := { name := "certAsks", fn := fun _ => fun
  | [d] => { results := [.lit (.bool true)], args := [d] }
  | _ => none }
def certAsksRow : OpenClaim := { program := "ytdpjeplagapdgaa", sum := "ea652d7ace6e2f5f33d681e0b8469f51a98729fedd9ec46b3624de6f4d2cc798", func := "carcanet/carcanetlaw22.CertAsks", spec := "certAsks", unfollowed := true, recurses := true, apart := false }
def CertAsksSaid : Prop := certAsksRow.holds Try.pinned (OpenSpec.ofChange certAsksSpec)

/-- ITS FALSE NEIGHBOUR: 'it returns false'. Refute it at one input. -/
def certAsksWrong : ChangeSpec := { name := "certAsks", fn := fun _ => fun
  | [d] => { results := [.lit (.bool false)], args := [d] }
  | _ => none }
def CertAsksWrongFalsely : Prop := certAsksRow.holds Try.pinned (OpenSpec.ofChange certAsksWrong)

/-- 'carcanetlaw22.CertOwn': WHATEVER THE INPUT: true; the input reads as it did. -/
def certOwnSpec : ChangeSpec := { name := "certOwn", fn := fun _ => fun
  | [d1, d2] => { results := [.lit (.bool true)], args := [d1, d2] }
  | _ => none }
def certOwnRow : OpenClaim := { program := "ytdpjeplagapdgaa", sum := "ea652d7ace6e2f5f33d681e0b8469f51a98729fedd9ec46b3624de6f4d2cc798", func := "carcanet/carcanetlaw22.CertOwn", spec := "certOwn", unfollowed := true, recurses := true, apart := false }
def CertOwnSaid : Prop := certOwnRow.holds Try.pinned (OpenSpec.ofChange certOwnSpec)

/-- ITS FALSE NEIGHBOUR: 'it returns false'. Refute it at one input. -/
def certOwnWrong : ChangeSpec := { name := "certOwn", fn := fun _ => fun
  | [d1, d2] => { results := [.lit (.bool false)], args := [d1, d2] }
  | _ => none }
def CertOwnWrongFalsely : Prop := certOwnRow.holds Try.pinned (OpenSpec.ofChange certOwnWrong)

/- THE SECOND FORM. 'bulk': how many values and letters a reading holds, each counted each time it is reached (what is shared counts as often as it is met; a slice's spare places count too). A statement '..UptoSaid' is the law's where the arguments, and the package variables that the reading takes, are together of bulk at most 1048576: NARROWER than '..Said'. Prove '..Said' where nothing that the law and all that it calls make is longer than what came in: it says more and counts as full. Else prove '..UptoSaid'. A law counts once. -/
mutual
def uptoBulk {H : Type} : DataW H → Nat
  | .lit (.string bytes) => bytes.length + 1
  | .lit _ => 1
  | .nil => 1
  | .ptr d => uptoBulk d + 1
  | .slice elems spare => uptoBulkAll elems + uptoBulkAll spare + 1
  | .agg parts => uptoBulkAll parts + 1
  | .iface _ d => uptoBulk d + 1
  | .map entries => uptoBulkEntries entries + 1
  | .held _ => 1
def uptoBulkAll {H : Type} : List (DataW H) → Nat
  | [] => 0
  | d :: r => uptoBulk d + uptoBulkAll r
def uptoBulkEntries {H : Type} : List (Lit × DataW H) → Nat
  | [] => 0
  | x :: r => uptoBulkEntry x + uptoBulkEntries r
def uptoBulkEntry {H : Type} : Lit × DataW H → Nat
  | (.string bytes, d) => bytes.length + uptoBulk d + 1
  | (_, d) => uptoBulk d + 1
 end
def uptoSmall : (H : Type) → List (DataW H) → Bool := fun _ ds => decide (uptoBulkAll ds ≤ 1048576)
def OpenSpec.upto (s : _root_.Go.ChangeSpec) : _root_.Go.OpenSpec := { _root_.Go.OpenSpec.ofChange s with cond := some uptoSmall }

/-- 'carcanetlaw22.CertReads', WHERE WHAT IT READS IS OF BULK AT MOST 1048576: true; the input reads as it did. -/
def certReadsUptoRow : OpenClaim := { program := "ytdpjeplagapdgaa", sum := "ea652d7ace6e2f5f33d681e0b8469f51a98729fedd9ec46b3624de6f4d2cc798", func := "carcanet/carcanetlaw22.CertReads", spec := "certReads", unfollowed := true, recurses := true, apart := false, narrowed := true }
def CertReadsUptoSaid : Prop := certReadsUptoRow.holds Try.pinned (OpenSpec.upto certReadsSpec)

/-- 'carcanetlaw22.CertPages', WHERE WHAT IT READS IS OF BULK AT MOST 1048576: true; the input reads as it did. -/
def certPagesUptoRow : OpenClaim := { program := "ytdpjeplagapdgaa", sum := "ea652d7ace6e2f5f33d681e0b8469f51a98729fedd9ec46b3624de6f4d2cc798", func := "carcanet/carcanetlaw22.CertPages", spec := "certPages", unfollowed := true, recurses := true, apart := false, narrowed := true }
def CertPagesUptoSaid : Prop := certPagesUptoRow.holds Try.pinned (OpenSpec.upto certPagesSpec)

/-- 'carcanetlaw22.CertBar', WHERE WHAT IT READS IS OF BULK AT MOST 1048576: true; the input reads as it did. -/
def certBarUptoRow : OpenClaim := { program := "ytdpjeplagapdgaa", sum := "ea652d7ace6e2f5f33d681e0b8469f51a98729fedd9ec46b3624de6f4d2cc798", func := "carcanet/carcanetlaw22.CertBar", spec := "certBar", unfollowed := true, recurses := true, apart := false, narrowed := true }
def CertBarUptoSaid : Prop := certBarUptoRow.holds Try.pinned (OpenSpec.upto certBarSpec)

/-- 'carcanetlaw22.CertNarrow', WHERE WHAT IT READS IS OF BULK AT MOST 1048576: true; the input reads as it did. -/
def certNarrowUptoRow : OpenClaim := { program := "ytdpjeplagapdgaa", sum := "ea652d7ace6e2f5f33d681e0b8469f51a98729fedd9ec46b3624de6f4d2cc798", func := "carcanet/carcanetlaw22.CertNarrow", spec := "certNarrow", unfollowed := true, recurses := true, apart := false, narrowed := true }
def CertNarrowUptoSaid : Prop := certNarrowUptoRow.holds Try.pinned (OpenSpec.upto certNarrowSpec)

/-- 'carcanetlaw22.CertCut', WHERE WHAT IT READS IS OF BULK AT MOST 1048576: true; the input reads as it did. -/
def certCutUptoRow : OpenClaim := { program := "ytdpjeplagapdgaa", sum := "ea652d7ace6e2f5f33d681e0b8469f51a98729fedd9ec46b3624de6f4d2cc798", func := "carcanet/carcanetlaw22.CertCut", spec := "certCut", unfollowed := true, recurses := true, apart := false, narrowed := true }
def CertCutUptoSaid : Prop := certCutUptoRow.holds Try.pinned (OpenSpec.upto certCutSpec)

/-- 'carcanetlaw22.CertAsks', WHERE WHAT IT READS IS OF BULK AT MOST 1048576: true; the input reads as it did. -/
def certAsksUptoRow : OpenClaim := { program := "ytdpjeplagapdgaa", sum := "ea652d7ace6e2f5f33d681e0b8469f51a98729fedd9ec46b3624de6f4d2cc798", func := "carcanet/carcanetlaw22.CertAsks", spec := "certAsks", unfollowed := true, recurses := true, apart := false, narrowed := true }
def CertAsksUptoSaid : Prop := certAsksUptoRow.holds Try.pinned (OpenSpec.upto certAsksSpec)

/-- 'carcanetlaw22.CertOwn', WHERE WHAT IT READS IS OF BULK AT MOST 1048576: true; the input reads as it did. -/
def certOwnUptoRow : OpenClaim := { program := "ytdpjeplagapdgaa", sum := "ea652d7ace6e2f5f33d681e0b8469f51a98729fedd9ec46b3624de6f4d2cc798", func := "carcanet/carcanetlaw22.CertOwn", spec := "certOwn", unfollowed := true, recurses := true, apart := false, narrowed := true }
def CertOwnUptoSaid : Prop := certOwnUptoRow.holds Try.pinned (OpenSpec.upto certOwnSpec)

end Rows
end Go.Proofs.Ytdpjeplagapdgaa
