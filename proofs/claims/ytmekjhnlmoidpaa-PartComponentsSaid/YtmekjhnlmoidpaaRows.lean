/-
  No cell of these rows narrows 'for every input' (looked for: loops, veiled, ifaces, maps, wideKeys, modest, calm, conditions, laid).
  DERIVED. THE GIVEN ROWS OF THIS SEAT. 7 by the template 'for every input the law returns true; each argument reads behind the call as it read before'; 0 by the template 'total and deterministic' (their statements: YtmekjhnlmoidpaaTotals.lean).
  GIVEN WITH THE SEED: the statements are not yours to turn. If you find one false, say at which input.
  Laid BY PROGRAM, IN A SANDBOX (cutbox-rows.mjs): the forced cells as the released guide's own fill.sh prints them over the translation 2f935ab392597de6… (all of the seat's roots in one cut). By AI agents, Wed Nov 11 2026. No macro, syntax, notation, axiom, sorry.
-/
import Derived.Test.YtmekjhnlmoidpaaChecked
import GoSem.Claim
import GoSem.ClaimJoined
import GoSem.ClaimMapViews
import Derived.JoinedTies
import Derived.KernelRfl
namespace Go.Proofs.Ytmekjhnlmoidpaa
/- THE CELL 'sum', in the pinned program and in every row, IS THE sha256 OF THE DUMP (.gsa) THAT YtmekjhnlmoidpaaProg.lean LOADS. Nothing in Lean hashes anything: it is a label: what it is worth is what the hold of that sum in a sandbox is worth. -/
noncomputable def Try.pinned : Pinned := { name := "ytmekjhnlmoidpaa", sum := "2f935ab392597de6e2063f99451b8c36e472282398a569fe6cb65bbccd8a052b", checked := Try.checked }
namespace Rows
def none {H : Type} : Left H := { results := [], args := [] }

/-- 'carcanetlaw04.PartTells': WHATEVER THE INPUT: true; the input reads as it did. -/
def partTellsSpec : ChangeSpec := { name := "partTells", fn := fun _ => fun
  | [d1, d2] => { results := [.lit (.bool true)], args := [d1, d2] }
  | _ => none }
def partTellsRow : OpenClaim := { program := "ytmekjhnlmoidpaa", sum := "2f935ab392597de6e2063f99451b8c36e472282398a569fe6cb65bbccd8a052b", func := "carcanet/carcanetlaw04.PartTells", spec := "partTells", unfollowed := true, recurses := true, apart := false }
def PartTellsSaid : Prop := partTellsRow.holds Try.pinned (OpenSpec.ofChange partTellsSpec)

/-- ITS FALSE NEIGHBOUR: 'it returns false'. Refute it at one input. -/
def partTellsWrong : ChangeSpec := { name := "partTells", fn := fun _ => fun
  | [d1, d2] => { results := [.lit (.bool false)], args := [d1, d2] }
  | _ => none }
def PartTellsWrongFalsely : Prop := partTellsRow.holds Try.pinned (OpenSpec.ofChange partTellsWrong)

/-- 'carcanetlaw04.PartComponents': WHATEVER THE INPUT: true; the input reads as it did. -/
def partComponentsSpec : ChangeSpec := { name := "partComponents", fn := fun _ => fun
  | [d] => { results := [.lit (.bool true)], args := [d] }
  | _ => none }
def partComponentsRow : OpenClaim := { program := "ytmekjhnlmoidpaa", sum := "2f935ab392597de6e2063f99451b8c36e472282398a569fe6cb65bbccd8a052b", func := "carcanet/carcanetlaw04.PartComponents", spec := "partComponents", unfollowed := true, recurses := true, apart := false }
def PartComponentsSaid : Prop := partComponentsRow.holds Try.pinned (OpenSpec.ofChange partComponentsSpec)

/-- ITS FALSE NEIGHBOUR: 'it returns false'. Refute it at one input. -/
def partComponentsWrong : ChangeSpec := { name := "partComponents", fn := fun _ => fun
  | [d] => { results := [.lit (.bool false)], args := [d] }
  | _ => none }
def PartComponentsWrongFalsely : Prop := partComponentsRow.holds Try.pinned (OpenSpec.ofChange partComponentsWrong)

/-- 'carcanetlaw04.PartOrder': WHATEVER THE INPUT: true; the input reads as it did. -/
def partOrderSpec : ChangeSpec := { name := "partOrder", fn := fun _ => fun
  | [d1, d2] => { results := [.lit (.bool true)], args := [d1, d2] }
  | _ => none }
def partOrderRow : OpenClaim := { program := "ytmekjhnlmoidpaa", sum := "2f935ab392597de6e2063f99451b8c36e472282398a569fe6cb65bbccd8a052b", func := "carcanet/carcanetlaw04.PartOrder", spec := "partOrder", unfollowed := true, recurses := true, apart := false }
def PartOrderSaid : Prop := partOrderRow.holds Try.pinned (OpenSpec.ofChange partOrderSpec)

/-- ITS FALSE NEIGHBOUR: 'it returns false'. Refute it at one input. -/
def partOrderWrong : ChangeSpec := { name := "partOrder", fn := fun _ => fun
  | [d1, d2] => { results := [.lit (.bool false)], args := [d1, d2] }
  | _ => none }
def PartOrderWrongFalsely : Prop := partOrderRow.holds Try.pinned (OpenSpec.ofChange partOrderWrong)

/-- 'carcanetlaw04.PartCounts': WHATEVER THE INPUT: true; the input reads as it did. -/
def partCountsSpec : ChangeSpec := { name := "partCounts", fn := fun _ => fun
  | [d1, d2] => { results := [.lit (.bool true)], args := [d1, d2] }
  | _ => none }
def partCountsRow : OpenClaim := { program := "ytmekjhnlmoidpaa", sum := "2f935ab392597de6e2063f99451b8c36e472282398a569fe6cb65bbccd8a052b", func := "carcanet/carcanetlaw04.PartCounts", spec := "partCounts", unfollowed := true, recurses := true, apart := false }
def PartCountsSaid : Prop := partCountsRow.holds Try.pinned (OpenSpec.ofChange partCountsSpec)

/-- ITS FALSE NEIGHBOUR: 'it returns false'. Refute it at one input. -/
def partCountsWrong : ChangeSpec := { name := "partCounts", fn := fun _ => fun
  | [d1, d2] => { results := [.lit (.bool false)], args := [d1, d2] }
  | _ => none }
def PartCountsWrongFalsely : Prop := partCountsRow.holds Try.pinned (OpenSpec.ofChange partCountsWrong)

/-- 'carcanetlaw04.PartOwn': WHATEVER THE INPUT: true; the input reads as it did. -/
def partOwnSpec : ChangeSpec := { name := "partOwn", fn := fun _ => fun
  | [d1, d2, d3] => { results := [.lit (.bool true)], args := [d1, d2, d3] }
  | _ => none }
def partOwnRow : OpenClaim := { program := "ytmekjhnlmoidpaa", sum := "2f935ab392597de6e2063f99451b8c36e472282398a569fe6cb65bbccd8a052b", func := "carcanet/carcanetlaw04.PartOwn", spec := "partOwn", unfollowed := true, recurses := true, apart := false }
def PartOwnSaid : Prop := partOwnRow.holds Try.pinned (OpenSpec.ofChange partOwnSpec)

/-- ITS FALSE NEIGHBOUR: 'it returns false'. Refute it at one input. -/
def partOwnWrong : ChangeSpec := { name := "partOwn", fn := fun _ => fun
  | [d1, d2, d3] => { results := [.lit (.bool false)], args := [d1, d2, d3] }
  | _ => none }
def PartOwnWrongFalsely : Prop := partOwnRow.holds Try.pinned (OpenSpec.ofChange partOwnWrong)

/-- 'carcanetlaw04.PartEdges': WHATEVER THE INPUT: true; the input reads as it did. -/
def partEdgesSpec : ChangeSpec := { name := "partEdges", fn := fun _ => fun
  | [d1, d2] => { results := [.lit (.bool true)], args := [d1, d2] }
  | _ => none }
def partEdgesRow : OpenClaim := { program := "ytmekjhnlmoidpaa", sum := "2f935ab392597de6e2063f99451b8c36e472282398a569fe6cb65bbccd8a052b", func := "carcanet/carcanetlaw04.PartEdges", spec := "partEdges", unfollowed := true, recurses := true, apart := false }
def PartEdgesSaid : Prop := partEdgesRow.holds Try.pinned (OpenSpec.ofChange partEdgesSpec)

/-- ITS FALSE NEIGHBOUR: 'it returns false'. Refute it at one input. -/
def partEdgesWrong : ChangeSpec := { name := "partEdges", fn := fun _ => fun
  | [d1, d2] => { results := [.lit (.bool false)], args := [d1, d2] }
  | _ => none }
def PartEdgesWrongFalsely : Prop := partEdgesRow.holds Try.pinned (OpenSpec.ofChange partEdgesWrong)

/-- 'carcanetlaw04.PartBridge': WHATEVER THE INPUT: true; the input reads as it did. -/
def partBridgeSpec : ChangeSpec := { name := "partBridge", fn := fun _ => fun
  | [d1, d2, d3] => { results := [.lit (.bool true)], args := [d1, d2, d3] }
  | _ => none }
def partBridgeRow : OpenClaim := { program := "ytmekjhnlmoidpaa", sum := "2f935ab392597de6e2063f99451b8c36e472282398a569fe6cb65bbccd8a052b", func := "carcanet/carcanetlaw04.PartBridge", spec := "partBridge", unfollowed := true, recurses := true, apart := false }
def PartBridgeSaid : Prop := partBridgeRow.holds Try.pinned (OpenSpec.ofChange partBridgeSpec)

/-- ITS FALSE NEIGHBOUR: 'it returns false'. Refute it at one input. -/
def partBridgeWrong : ChangeSpec := { name := "partBridge", fn := fun _ => fun
  | [d1, d2, d3] => { results := [.lit (.bool false)], args := [d1, d2, d3] }
  | _ => none }
def PartBridgeWrongFalsely : Prop := partBridgeRow.holds Try.pinned (OpenSpec.ofChange partBridgeWrong)

/- THE SECOND FORM. 'bulk': how many values and letters a reading holds, each counted each time it is reached (what is shared counts as often as it is met; a slice's spare places count too). A statement '..UptoSaid' is the law's where the arguments, and the package variables that the reading takes, are together of bulk at most 1048576: NARROWER than '..Said'. Prove '..Said' where nothing that the law and all that it calls make is longer than what came in: it says more and counts as full. Else prove '..UptoSaid'. A law counts once. -/
mutual
def uptoBulk {H : Type} : DataW H → Nat
  | .lit (.string bytes) => bytes.length + 1
  | .lit _ => 1
  | .nil => 1
  | .ptr d => uptoBulk d + 1
  | .slice elems spare => uptoBulkAll elems + uptoBulkAll spare + 1
  | .agg parts => uptoBulkAll parts + 1
  | .iface _ d => uptoBulk d + 1
  | .map entries => uptoBulkEntries entries + 1
  | .held _ => 1
def uptoBulkAll {H : Type} : List (DataW H) → Nat
  | [] => 0
  | d :: r => uptoBulk d + uptoBulkAll r
def uptoBulkEntries {H : Type} : List (Lit × DataW H) → Nat
  | [] => 0
  | x :: r => uptoBulkEntry x + uptoBulkEntries r
def uptoBulkEntry {H : Type} : Lit × DataW H → Nat
  | (.string bytes, d) => bytes.length + uptoBulk d + 1
  | (_, d) => uptoBulk d + 1
 end
def uptoSmall : (H : Type) → List (DataW H) → Bool := fun _ ds => decide (uptoBulkAll ds ≤ 1048576)
def OpenSpec.upto (s : _root_.Go.ChangeSpec) : _root_.Go.OpenSpec := { _root_.Go.OpenSpec.ofChange s with cond := some uptoSmall }

/-- 'carcanetlaw04.PartTells', WHERE WHAT IT READS IS OF BULK AT MOST 1048576: true; the input reads as it did. -/
def partTellsUptoRow : OpenClaim := { program := "ytmekjhnlmoidpaa", sum := "2f935ab392597de6e2063f99451b8c36e472282398a569fe6cb65bbccd8a052b", func := "carcanet/carcanetlaw04.PartTells", spec := "partTells", unfollowed := true, recurses := true, apart := false, narrowed := true }
def PartTellsUptoSaid : Prop := partTellsUptoRow.holds Try.pinned (OpenSpec.upto partTellsSpec)

/-- 'carcanetlaw04.PartComponents', WHERE WHAT IT READS IS OF BULK AT MOST 1048576: true; the input reads as it did. -/
def partComponentsUptoRow : OpenClaim := { program := "ytmekjhnlmoidpaa", sum := "2f935ab392597de6e2063f99451b8c36e472282398a569fe6cb65bbccd8a052b", func := "carcanet/carcanetlaw04.PartComponents", spec := "partComponents", unfollowed := true, recurses := true, apart := false, narrowed := true }
def PartComponentsUptoSaid : Prop := partComponentsUptoRow.holds Try.pinned (OpenSpec.upto partComponentsSpec)

/-- 'carcanetlaw04.PartOrder', WHERE WHAT IT READS IS OF BULK AT MOST 1048576: true; the input reads as it did. -/
def partOrderUptoRow : OpenClaim := { program := "ytmekjhnlmoidpaa", sum := "2f935ab392597de6e2063f99451b8c36e472282398a569fe6cb65bbccd8a052b", func := "carcanet/carcanetlaw04.PartOrder", spec := "partOrder", unfollowed := true, recurses := true, apart := false, narrowed := true }
def PartOrderUptoSaid : Prop := partOrderUptoRow.holds Try.pinned (OpenSpec.upto partOrderSpec)

/-- 'carcanetlaw04.PartCounts', WHERE WHAT IT READS IS OF BULK AT MOST 1048576: true; the input reads as it did. -/
def partCountsUptoRow : OpenClaim := { program := "ytmekjhnlmoidpaa", sum := "2f935ab392597de6e2063f99451b8c36e472282398a569fe6cb65bbccd8a052b", func := "carcanet/carcanetlaw04.PartCounts", spec := "partCounts", unfollowed := true, recurses := true, apart := false, narrowed := true }
def PartCountsUptoSaid : Prop := partCountsUptoRow.holds Try.pinned (OpenSpec.upto partCountsSpec)

/-- 'carcanetlaw04.PartOwn', WHERE WHAT IT READS IS OF BULK AT MOST 1048576: true; the input reads as it did. -/
def partOwnUptoRow : OpenClaim := { program := "ytmekjhnlmoidpaa", sum := "2f935ab392597de6e2063f99451b8c36e472282398a569fe6cb65bbccd8a052b", func := "carcanet/carcanetlaw04.PartOwn", spec := "partOwn", unfollowed := true, recurses := true, apart := false, narrowed := true }
def PartOwnUptoSaid : Prop := partOwnUptoRow.holds Try.pinned (OpenSpec.upto partOwnSpec)

/-- 'carcanetlaw04.PartEdges', WHERE WHAT IT READS IS OF BULK AT MOST 1048576: true; the input reads as it did. -/
def partEdgesUptoRow : OpenClaim := { program := "ytmekjhnlmoidpaa", sum := "2f935ab392597de6e2063f99451b8c36e472282398a569fe6cb65bbccd8a052b", func := "carcanet/carcanetlaw04.PartEdges", spec := "partEdges", unfollowed := true, recurses := true, apart := false, narrowed := true }
def PartEdgesUptoSaid : Prop := partEdgesUptoRow.holds Try.pinned (OpenSpec.upto partEdgesSpec)

/-- 'carcanetlaw04.PartBridge', WHERE WHAT IT READS IS OF BULK AT MOST 1048576: true; the input reads as it did. -/
def partBridgeUptoRow : OpenClaim := { program := "ytmekjhnlmoidpaa", sum := "2f935ab392597de6e2063f99451b8c36e472282398a569fe6cb65bbccd8a052b", func := "carcanet/carcanetlaw04.PartBridge", spec := "partBridge", unfollowed := true, recurses := true, apart := false, narrowed := true }
def PartBridgeUptoSaid : Prop := partBridgeUptoRow.holds Try.pinned (OpenSpec.upto partBridgeSpec)

end Rows
end Go.Proofs.Ytmekjhnlmoidpaa
