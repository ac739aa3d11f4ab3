/-
  No cell of these rows narrows 'for every input' (looked for: loops, veiled, ifaces, maps, wideKeys, modest, calm, conditions, laid).
  DERIVED. THE GIVEN ROWS OF THIS SEAT. 7 by the template 'for every input the law returns true; each argument reads behind the call as it read before'; 0 by the template 'total and deterministic' (their statements: YtgoiomkgedcfjaaTotals.lean).
  GIVEN WITH THE SEED: the statements are not yours to turn. If you find one false, say at which input.
  Laid BY PROGRAM, IN A SANDBOX (cutbox-rows.mjs): the forced cells as the released guide's own fill.sh prints them over the translation 046f7b95b4faffed… (all of the seat's roots in one cut). By AI agents, Wed Nov 11 2026. No macro, syntax, notation, axiom, sorry.
-/
import Derived.Test.YtgoiomkgedcfjaaChecked
import GoSem.Claim
import GoSem.ClaimJoined
import GoSem.ClaimMapViews
import Derived.JoinedTies
import Derived.KernelRfl
namespace Go.Proofs.Ytgoiomkgedcfjaa
/- THE CELL 'sum', in the pinned program and in every row, IS THE sha256 OF THE DUMP (.gsa) THAT YtgoiomkgedcfjaaProg.lean LOADS. Nothing in Lean hashes anything: it is a label: what it is worth is what the hold of that sum in a sandbox is worth. -/
noncomputable def Try.pinned : Pinned := { name := "ytgoiomkgedcfjaa", sum := "046f7b95b4faffed409a4e9ebfc99eb97bc0b74571ae6a9541d2d9ee25f2bc20", checked := Try.checked }
namespace Rows
def none {H : Type} : Left H := { results := [], args := [] }

/-- 'carcanetlaw06.SubInduced': WHATEVER THE INPUT: true; the input reads as it did. -/
def subInducedSpec : ChangeSpec := { name := "subInduced", fn := fun _ => fun
  | [d1, d2] => { results := [.lit (.bool true)], args := [d1, d2] }
  | _ => none }
def subInducedRow : OpenClaim := { program := "ytgoiomkgedcfjaa", sum := "046f7b95b4faffed409a4e9ebfc99eb97bc0b74571ae6a9541d2d9ee25f2bc20", func := "carcanet/carcanetlaw06.SubInduced", spec := "subInduced", unfollowed := true, recurses := true, apart := false }
def SubInducedSaid : Prop := subInducedRow.holds Try.pinned (OpenSpec.ofChange subInducedSpec)

/-- ITS FALSE NEIGHBOUR: 'it returns false'. Refute it at one input. -/
def subInducedWrong : ChangeSpec := { name := "subInduced", fn := fun _ => fun
  | [d1, d2] => { results := [.lit (.bool false)], args := [d1, d2] }
  | _ => none }
def SubInducedWrongFalsely : Prop := subInducedRow.holds Try.pinned (OpenSpec.ofChange subInducedWrong)

/-- 'carcanetlaw06.SubTells': WHATEVER THE INPUT: true; the input reads as it did. -/
def subTellsSpec : ChangeSpec := { name := "subTells", fn := fun _ => fun
  | [d1, d2, d3] => { results := [.lit (.bool true)], args := [d1, d2, d3] }
  | _ => none }
def subTellsRow : OpenClaim := { program := "ytgoiomkgedcfjaa", sum := "046f7b95b4faffed409a4e9ebfc99eb97bc0b74571ae6a9541d2d9ee25f2bc20", func := "carcanet/carcanetlaw06.SubTells", spec := "subTells", unfollowed := true, recurses := true, apart := false }
def SubTellsSaid : Prop := subTellsRow.holds Try.pinned (OpenSpec.ofChange subTellsSpec)

/-- ITS FALSE NEIGHBOUR: 'it returns false'. Refute it at one input. -/
def subTellsWrong : ChangeSpec := { name := "subTells", fn := fun _ => fun
  | [d1, d2, d3] => { results := [.lit (.bool false)], args := [d1, d2, d3] }
  | _ => none }
def SubTellsWrongFalsely : Prop := subTellsRow.holds Try.pinned (OpenSpec.ofChange subTellsWrong)

/-- 'carcanetlaw06.SubWrong': WHATEVER THE INPUT: true; the input reads as it did. -/
def subWrongSpec : ChangeSpec := { name := "subWrong", fn := fun _ => fun
  | [d1, d2, d3] => { results := [.lit (.bool true)], args := [d1, d2, d3] }
  | _ => none }
def subWrongRow : OpenClaim := { program := "ytgoiomkgedcfjaa", sum := "046f7b95b4faffed409a4e9ebfc99eb97bc0b74571ae6a9541d2d9ee25f2bc20", func := "carcanet/carcanetlaw06.SubWrong", spec := "subWrong", unfollowed := true, recurses := true, apart := false }
def SubWrongSaid : Prop := subWrongRow.holds Try.pinned (OpenSpec.ofChange subWrongSpec)

/-- ITS FALSE NEIGHBOUR: 'it returns false'. Refute it at one input. -/
def subWrongWrong : ChangeSpec := { name := "subWrong", fn := fun _ => fun
  | [d1, d2, d3] => { results := [.lit (.bool false)], args := [d1, d2, d3] }
  | _ => none }
def SubWrongWrongFalsely : Prop := subWrongRow.holds Try.pinned (OpenSpec.ofChange subWrongWrong)

/-- 'carcanetlaw06.SubOrder': WHATEVER THE INPUT: true; the input reads as it did. -/
def subOrderSpec : ChangeSpec := { name := "subOrder", fn := fun _ => fun
  | [d1, d2] => { results := [.lit (.bool true)], args := [d1, d2] }
  | _ => none }
def subOrderRow : OpenClaim := { program := "ytgoiomkgedcfjaa", sum := "046f7b95b4faffed409a4e9ebfc99eb97bc0b74571ae6a9541d2d9ee25f2bc20", func := "carcanet/carcanetlaw06.SubOrder", spec := "subOrder", unfollowed := true, recurses := true, apart := false }
def SubOrderSaid : Prop := subOrderRow.holds Try.pinned (OpenSpec.ofChange subOrderSpec)

/-- ITS FALSE NEIGHBOUR: 'it returns false'. Refute it at one input. -/
def subOrderWrong : ChangeSpec := { name := "subOrder", fn := fun _ => fun
  | [d1, d2] => { results := [.lit (.bool false)], args := [d1, d2] }
  | _ => none }
def SubOrderWrongFalsely : Prop := subOrderRow.holds Try.pinned (OpenSpec.ofChange subOrderWrong)

/-- 'carcanetlaw06.SubLeaves': WHATEVER THE INPUT: true; the input reads as it did. -/
def subLeavesSpec : ChangeSpec := { name := "subLeaves", fn := fun _ => fun
  | [d1, d2, d3] => { results := [.lit (.bool true)], args := [d1, d2, d3] }
  | _ => none }
def subLeavesRow : OpenClaim := { program := "ytgoiomkgedcfjaa", sum := "046f7b95b4faffed409a4e9ebfc99eb97bc0b74571ae6a9541d2d9ee25f2bc20", func := "carcanet/carcanetlaw06.SubLeaves", spec := "subLeaves", unfollowed := true, recurses := true, apart := false }
def SubLeavesSaid : Prop := subLeavesRow.holds Try.pinned (OpenSpec.ofChange subLeavesSpec)

/-- ITS FALSE NEIGHBOUR: 'it returns false'. Refute it at one input. -/
def subLeavesWrong : ChangeSpec := { name := "subLeaves", fn := fun _ => fun
  | [d1, d2, d3] => { results := [.lit (.bool false)], args := [d1, d2, d3] }
  | _ => none }
def SubLeavesWrongFalsely : Prop := subLeavesRow.holds Try.pinned (OpenSpec.ofChange subLeavesWrong)

/-- 'carcanetlaw06.SubTriangle': WHATEVER THE INPUT: true; the input reads as it did. -/
def subTriangleSpec : ChangeSpec := { name := "subTriangle", fn := fun _ => fun
  | [d1, d2] => { results := [.lit (.bool true)], args := [d1, d2] }
  | _ => none }
def subTriangleRow : OpenClaim := { program := "ytgoiomkgedcfjaa", sum := "046f7b95b4faffed409a4e9ebfc99eb97bc0b74571ae6a9541d2d9ee25f2bc20", func := "carcanet/carcanetlaw06.SubTriangle", spec := "subTriangle", unfollowed := true, recurses := true, apart := false }
def SubTriangleSaid : Prop := subTriangleRow.holds Try.pinned (OpenSpec.ofChange subTriangleSpec)

/-- ITS FALSE NEIGHBOUR: 'it returns false'. Refute it at one input. -/
def subTriangleWrong : ChangeSpec := { name := "subTriangle", fn := fun _ => fun
  | [d1, d2] => { results := [.lit (.bool false)], args := [d1, d2] }
  | _ => none }
def SubTriangleWrongFalsely : Prop := subTriangleRow.holds Try.pinned (OpenSpec.ofChange subTriangleWrong)

/-- 'carcanetlaw06.SubCounts': WHATEVER THE INPUT: true; the input reads as it did. -/
def subCountsSpec : ChangeSpec := { name := "subCounts", fn := fun _ => fun
  | [d1, d2] => { results := [.lit (.bool true)], args := [d1, d2] }
  | _ => none }
def subCountsRow : OpenClaim := { program := "ytgoiomkgedcfjaa", sum := "046f7b95b4faffed409a4e9ebfc99eb97bc0b74571ae6a9541d2d9ee25f2bc20", func := "carcanet/carcanetlaw06.SubCounts", spec := "subCounts", unfollowed := true, recurses := true, apart := false }
def SubCountsSaid : Prop := subCountsRow.holds Try.pinned (OpenSpec.ofChange subCountsSpec)

/-- ITS FALSE NEIGHBOUR: 'it returns false'. Refute it at one input. -/
def subCountsWrong : ChangeSpec := { name := "subCounts", fn := fun _ => fun
  | [d1, d2] => { results := [.lit (.bool false)], args := [d1, d2] }
  | _ => none }
def SubCountsWrongFalsely : Prop := subCountsRow.holds Try.pinned (OpenSpec.ofChange subCountsWrong)

/- THE SECOND FORM. 'bulk': how many values and letters a reading holds, each counted each time it is reached (what is shared counts as often as it is met; a slice's spare places count too). A statement '..UptoSaid' is the law's where the arguments, and the package variables that the reading takes, are together of bulk at most 1048576: NARROWER than '..Said'. Prove '..Said' where nothing that the law and all that it calls make is longer than what came in: it says more and counts as full. Else prove '..UptoSaid'. A law counts once. -/
mutual
def uptoBulk {H : Type} : DataW H → Nat
  | .lit (.string bytes) => bytes.length + 1
  | .lit _ => 1
  | .nil => 1
  | .ptr d => uptoBulk d + 1
  | .slice elems spare => uptoBulkAll elems + uptoBulkAll spare + 1
  | .agg parts => uptoBulkAll parts + 1
  | .iface _ d => uptoBulk d + 1
  | .map entries => uptoBulkEntries entries + 1
  | .held _ => 1
def uptoBulkAll {H : Type} : List (DataW H) → Nat
  | [] => 0
  | d :: r => uptoBulk d + uptoBulkAll r
def uptoBulkEntries {H : Type} : List (Lit × DataW H) → Nat
  | [] => 0
  | x :: r => uptoBulkEntry x + uptoBulkEntries r
def uptoBulkEntry {H : Type} : Lit × DataW H → Nat
  | (.string bytes, d) => bytes.length + uptoBulk d + 1
  | (_, d) => uptoBulk d + 1
 end
def uptoSmall : (H : Type) → List (DataW H) → Bool := fun _ ds => decide (uptoBulkAll ds ≤ 1048576)
def OpenSpec.upto (s : _root_.Go.ChangeSpec) : _root_.Go.OpenSpec := { _root_.Go.OpenSpec.ofChange s with cond := some uptoSmall }

/-- 'carcanetlaw06.SubInduced', WHERE WHAT IT READS IS OF BULK AT MOST 1048576: true; the input reads as it did. -/
def subInducedUptoRow : OpenClaim := { program := "ytgoiomkgedcfjaa", sum := "046f7b95b4faffed409a4e9ebfc99eb97bc0b74571ae6a9541d2d9ee25f2bc20", func := "carcanet/carcanetlaw06.SubInduced", spec := "subInduced", unfollowed := true, recurses := true, apart := false, narrowed := true }
def SubInducedUptoSaid : Prop := subInducedUptoRow.holds Try.pinned (OpenSpec.upto subInducedSpec)

/-- 'carcanetlaw06.SubTells', WHERE WHAT IT READS IS OF BULK AT MOST 1048576: true; the input reads as it did. -/
def subTellsUptoRow : OpenClaim := { program := "ytgoiomkgedcfjaa", sum := "046f7b95b4faffed409a4e9ebfc99eb97bc0b74571ae6a9541d2d9ee25f2bc20", func := "carcanet/carcanetlaw06.SubTells", spec := "subTells", unfollowed := true, recurses := true, apart := false, narrowed := true }
def SubTellsUptoSaid : Prop := subTellsUptoRow.holds Try.pinned (OpenSpec.upto subTellsSpec)

/-- 'carcanetlaw06.SubWrong', WHERE WHAT IT READS IS OF BULK AT MOST 1048576: true; the input reads as it did. -/
def subWrongUptoRow : OpenClaim := { program := "ytgoiomkgedcfjaa", sum := "046f7b95b4faffed409a4e9ebfc99eb97bc0b74571ae6a9541d2d9ee25f2bc20", func := "carcanet/carcanetlaw06.SubWrong", spec := "subWrong", unfollowed := true, recurses := true, apart := false, narrowed := true }
def SubWrongUptoSaid : Prop := subWrongUptoRow.holds Try.pinned (OpenSpec.upto subWrongSpec)

/-- 'carcanetlaw06.SubOrder', WHERE WHAT IT READS IS OF BULK AT MOST 1048576: true; the input reads as it did. -/
def subOrderUptoRow : OpenClaim := { program := "ytgoiomkgedcfjaa", sum := "046f7b95b4faffed409a4e9ebfc99eb97bc0b74571ae6a9541d2d9ee25f2bc20", func := "carcanet/carcanetlaw06.SubOrder", spec := "subOrder", unfollowed := true, recurses := true, apart := false, narrowed := true }
def SubOrderUptoSaid : Prop := subOrderUptoRow.holds Try.pinned (OpenSpec.upto subOrderSpec)

/-- 'carcanetlaw06.SubLeaves', WHERE WHAT IT READS IS OF BULK AT MOST 1048576: true; the input reads as it did. -/
def subLeavesUptoRow : OpenClaim := { program := "ytgoiomkgedcfjaa", sum := "046f7b95b4faffed409a4e9ebfc99eb97bc0b74571ae6a9541d2d9ee25f2bc20", func := "carcanet/carcanetlaw06.SubLeaves", spec := "subLeaves", unfollowed := true, recurses := true, apart := false, narrowed := true }
def SubLeavesUptoSaid : Prop := subLeavesUptoRow.holds Try.pinned (OpenSpec.upto subLeavesSpec)

/-- 'carcanetlaw06.SubTriangle', WHERE WHAT IT READS IS OF BULK AT MOST 1048576: true; the input reads as it did. -/
def subTriangleUptoRow : OpenClaim := { program := "ytgoiomkgedcfjaa", sum := "046f7b95b4faffed409a4e9ebfc99eb97bc0b74571ae6a9541d2d9ee25f2bc20", func := "carcanet/carcanetlaw06.SubTriangle", spec := "subTriangle", unfollowed := true, recurses := true, apart := false, narrowed := true }
def SubTriangleUptoSaid : Prop := subTriangleUptoRow.holds Try.pinned (OpenSpec.upto subTriangleSpec)

/-- 'carcanetlaw06.SubCounts', WHERE WHAT IT READS IS OF BULK AT MOST 1048576: true; the input reads as it did. -/
def subCountsUptoRow : OpenClaim := { program := "ytgoiomkgedcfjaa", sum := "046f7b95b4faffed409a4e9ebfc99eb97bc0b74571ae6a9541d2d9ee25f2bc20", func := "carcanet/carcanetlaw06.SubCounts", spec := "subCounts", unfollowed := true, recurses := true, apart := false, narrowed := true }
def SubCountsUptoSaid : Prop := subCountsUptoRow.holds Try.pinned (OpenSpec.upto subCountsSpec)

end Rows
end Go.Proofs.Ytgoiomkgedcfjaa
