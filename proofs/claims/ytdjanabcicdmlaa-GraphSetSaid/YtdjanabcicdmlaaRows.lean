/-
  No cell of these rows narrows 'for every input' (looked for: loops, veiled, ifaces, maps, wideKeys, modest, calm, conditions, laid).
  DERIVED. THE GIVEN ROWS OF THIS SEAT. 7 by the template 'for every input the law returns true; each argument reads behind the call as it read before'; 0 by the template 'total and deterministic' (their statements: YtdjanabcicdmlaaTotals.lean).
  GIVEN WITH THE SEED: the statements are not yours to turn. If you find one false, say at which input.
  Laid BY PROGRAM, IN A SANDBOX (cutbox-rows.mjs): the forced cells as the released guide's own fill.sh prints them over the translation e9c68ff831a212ef… (all of the seat's roots in one cut). By AI agents, Wed Nov 11 2026. No macro, syntax, notation, axiom, sorry.
-/
import Derived.Test.YtdjanabcicdmlaaChecked
import GoSem.Claim
import GoSem.ClaimJoined
import GoSem.ClaimMapViews
import Derived.JoinedTies
import Derived.KernelRfl
namespace Go.Proofs.Ytdjanabcicdmlaa
/- THE CELL 'sum', in the pinned program and in every row, IS THE sha256 OF THE DUMP (.gsa) THAT YtdjanabcicdmlaaProg.lean LOADS. Nothing in Lean hashes anything: it is a label: what it is worth is what the hold of that sum in a sandbox is worth. -/
noncomputable def Try.pinned : Pinned := { name := "ytdjanabcicdmlaa", sum := "e9c68ff831a212eff271151ae0a06dd8ed5e9944b25cf6c4302a72f2a6e97089", checked := Try.checked }
namespace Rows
def none {H : Type} : Left H := { results := [], args := [] }

/-- 'carcanetlaw03.GraphNormal': WHATEVER THE INPUT: true; the input reads as it did. -/
def graphNormalSpec : ChangeSpec := { name := "graphNormal", fn := fun _ => fun
  | [d1, d2] => { results := [.lit (.bool true)], args := [d1, d2] }
  | _ => none }
def graphNormalRow : OpenClaim := { program := "ytdjanabcicdmlaa", sum := "e9c68ff831a212eff271151ae0a06dd8ed5e9944b25cf6c4302a72f2a6e97089", func := "carcanet/carcanetlaw03.GraphNormal", spec := "graphNormal", unfollowed := true, recurses := true, apart := false }
def GraphNormalSaid : Prop := graphNormalRow.holds Try.pinned (OpenSpec.ofChange graphNormalSpec)

/-- ITS FALSE NEIGHBOUR: 'it returns false'. Refute it at one input. -/
def graphNormalWrong : ChangeSpec := { name := "graphNormal", fn := fun _ => fun
  | [d1, d2] => { results := [.lit (.bool false)], args := [d1, d2] }
  | _ => none }
def GraphNormalWrongFalsely : Prop := graphNormalRow.holds Try.pinned (OpenSpec.ofChange graphNormalWrong)

/-- 'carcanetlaw03.GraphRight': WHATEVER THE INPUT: true; the input reads as it did. -/
def graphRightSpec : ChangeSpec := { name := "graphRight", fn := fun _ => fun
  | [d1, d2, d3] => { results := [.lit (.bool true)], args := [d1, d2, d3] }
  | _ => none }
def graphRightRow : OpenClaim := { program := "ytdjanabcicdmlaa", sum := "e9c68ff831a212eff271151ae0a06dd8ed5e9944b25cf6c4302a72f2a6e97089", func := "carcanet/carcanetlaw03.GraphRight", spec := "graphRight", unfollowed := true, recurses := true, apart := false }
def GraphRightSaid : Prop := graphRightRow.holds Try.pinned (OpenSpec.ofChange graphRightSpec)

/-- ITS FALSE NEIGHBOUR: 'it returns false'. Refute it at one input. -/
def graphRightWrong : ChangeSpec := { name := "graphRight", fn := fun _ => fun
  | [d1, d2, d3] => { results := [.lit (.bool false)], args := [d1, d2, d3] }
  | _ => none }
def GraphRightWrongFalsely : Prop := graphRightRow.holds Try.pinned (OpenSpec.ofChange graphRightWrong)

/-- 'carcanetlaw03.GraphAdds': WHATEVER THE INPUT: true; the input reads as it did. -/
def graphAddsSpec : ChangeSpec := { name := "graphAdds", fn := fun _ => fun
  | [d1, d2, d3] => { results := [.lit (.bool true)], args := [d1, d2, d3] }
  | _ => none }
def graphAddsRow : OpenClaim := { program := "ytdjanabcicdmlaa", sum := "e9c68ff831a212eff271151ae0a06dd8ed5e9944b25cf6c4302a72f2a6e97089", func := "carcanet/carcanetlaw03.GraphAdds", spec := "graphAdds", unfollowed := true, recurses := true, apart := false }
def GraphAddsSaid : Prop := graphAddsRow.holds Try.pinned (OpenSpec.ofChange graphAddsSpec)

/-- ITS FALSE NEIGHBOUR: 'it returns false'. Refute it at one input. -/
def graphAddsWrong : ChangeSpec := { name := "graphAdds", fn := fun _ => fun
  | [d1, d2, d3] => { results := [.lit (.bool false)], args := [d1, d2, d3] }
  | _ => none }
def GraphAddsWrongFalsely : Prop := graphAddsRow.holds Try.pinned (OpenSpec.ofChange graphAddsWrong)

/-- 'carcanetlaw03.GraphSet': WHATEVER THE INPUT: true; the input reads as it did. -/
def graphSetSpec : ChangeSpec := { name := "graphSet", fn := fun _ => fun
  | [d1, d2] => { results := [.lit (.bool true)], args := [d1, d2] }
  | _ => none }
def graphSetRow : OpenClaim := { program := "ytdjanabcicdmlaa", sum := "e9c68ff831a212eff271151ae0a06dd8ed5e9944b25cf6c4302a72f2a6e97089", func := "carcanet/carcanetlaw03.GraphSet", spec := "graphSet", unfollowed := true, recurses := true, apart := false }
def GraphSetSaid : Prop := graphSetRow.holds Try.pinned (OpenSpec.ofChange graphSetSpec)

/-- ITS FALSE NEIGHBOUR: 'it returns false'. Refute it at one input. -/
def graphSetWrong : ChangeSpec := { name := "graphSet", fn := fun _ => fun
  | [d1, d2] => { results := [.lit (.bool false)], args := [d1, d2] }
  | _ => none }
def GraphSetWrongFalsely : Prop := graphSetRow.holds Try.pinned (OpenSpec.ofChange graphSetWrong)

/-- 'carcanetlaw03.GraphTurned': WHATEVER THE INPUT: true; the input reads as it did. -/
def graphTurnedSpec : ChangeSpec := { name := "graphTurned", fn := fun _ => fun
  | [d1, d2] => { results := [.lit (.bool true)], args := [d1, d2] }
  | _ => none }
def graphTurnedRow : OpenClaim := { program := "ytdjanabcicdmlaa", sum := "e9c68ff831a212eff271151ae0a06dd8ed5e9944b25cf6c4302a72f2a6e97089", func := "carcanet/carcanetlaw03.GraphTurned", spec := "graphTurned", unfollowed := true, recurses := true, apart := false }
def GraphTurnedSaid : Prop := graphTurnedRow.holds Try.pinned (OpenSpec.ofChange graphTurnedSpec)

/-- ITS FALSE NEIGHBOUR: 'it returns false'. Refute it at one input. -/
def graphTurnedWrong : ChangeSpec := { name := "graphTurned", fn := fun _ => fun
  | [d1, d2] => { results := [.lit (.bool false)], args := [d1, d2] }
  | _ => none }
def GraphTurnedWrongFalsely : Prop := graphTurnedRow.holds Try.pinned (OpenSpec.ofChange graphTurnedWrong)

/-- 'carcanetlaw03.GraphBack': WHATEVER THE INPUT: true; the input reads as it did. -/
def graphBackSpec : ChangeSpec := { name := "graphBack", fn := fun _ => fun
  | [d1, d2, d3] => { results := [.lit (.bool true)], args := [d1, d2, d3] }
  | _ => none }
def graphBackRow : OpenClaim := { program := "ytdjanabcicdmlaa", sum := "e9c68ff831a212eff271151ae0a06dd8ed5e9944b25cf6c4302a72f2a6e97089", func := "carcanet/carcanetlaw03.GraphBack", spec := "graphBack", unfollowed := true, recurses := true, apart := false }
def GraphBackSaid : Prop := graphBackRow.holds Try.pinned (OpenSpec.ofChange graphBackSpec)

/-- ITS FALSE NEIGHBOUR: 'it returns false'. Refute it at one input. -/
def graphBackWrong : ChangeSpec := { name := "graphBack", fn := fun _ => fun
  | [d1, d2, d3] => { results := [.lit (.bool false)], args := [d1, d2, d3] }
  | _ => none }
def GraphBackWrongFalsely : Prop := graphBackRow.holds Try.pinned (OpenSpec.ofChange graphBackWrong)

/-- 'carcanetlaw03.GraphSum': WHATEVER THE INPUT: true; the input reads as it did. -/
def graphSumSpec : ChangeSpec := { name := "graphSum", fn := fun _ => fun
  | [d1, d2] => { results := [.lit (.bool true)], args := [d1, d2] }
  | _ => none }
def graphSumRow : OpenClaim := { program := "ytdjanabcicdmlaa", sum := "e9c68ff831a212eff271151ae0a06dd8ed5e9944b25cf6c4302a72f2a6e97089", func := "carcanet/carcanetlaw03.GraphSum", spec := "graphSum", unfollowed := true, recurses := true, apart := false }
def GraphSumSaid : Prop := graphSumRow.holds Try.pinned (OpenSpec.ofChange graphSumSpec)

/-- ITS FALSE NEIGHBOUR: 'it returns false'. Refute it at one input. -/
def graphSumWrong : ChangeSpec := { name := "graphSum", fn := fun _ => fun
  | [d1, d2] => { results := [.lit (.bool false)], args := [d1, d2] }
  | _ => none }
def GraphSumWrongFalsely : Prop := graphSumRow.holds Try.pinned (OpenSpec.ofChange graphSumWrong)

/- THE SECOND FORM. 'bulk': how many values and letters a reading holds, each counted each time it is reached (what is shared counts as often as it is met; a slice's spare places count too). A statement '..UptoSaid' is the law's where the arguments, and the package variables that the reading takes, are together of bulk at most 1048576: NARROWER than '..Said'. Prove '..Said' where nothing that the law and all that it calls make is longer than what came in: it says more and counts as full. Else prove '..UptoSaid'. A law counts once. -/
mutual
def uptoBulk {H : Type} : DataW H → Nat
  | .lit (.string bytes) => bytes.length + 1
  | .lit _ => 1
  | .nil => 1
  | .ptr d => uptoBulk d + 1
  | .slice elems spare => uptoBulkAll elems + uptoBulkAll spare + 1
  | .agg parts => uptoBulkAll parts + 1
  | .iface _ d => uptoBulk d + 1
  | .map entries => uptoBulkEntries entries + 1
  | .held _ => 1
def uptoBulkAll {H : Type} : List (DataW H) → Nat
  | [] => 0
  | d :: r => uptoBulk d + uptoBulkAll r
def uptoBulkEntries {H : Type} : List (Lit × DataW H) → Nat
  | [] => 0
  | x :: r => uptoBulkEntry x + uptoBulkEntries r
def uptoBulkEntry {H : Type} : Lit × DataW H → Nat
  | (.string bytes, d) => bytes.length + uptoBulk d + 1
  | (_, d) => uptoBulk d + 1
 end
def uptoSmall : (H : Type) → List (DataW H) → Bool := fun _ ds => decide (uptoBulkAll ds ≤ 1048576)
def OpenSpec.upto (s : _root_.Go.ChangeSpec) : _root_.Go.OpenSpec := { _root_.Go.OpenSpec.ofChange s with cond := some uptoSmall }

/-- 'carcanetlaw03.GraphNormal', WHERE WHAT IT READS IS OF BULK AT MOST 1048576: true; the input reads as it did. -/
def graphNormalUptoRow : OpenClaim := { program := "ytdjanabcicdmlaa", sum := "e9c68ff831a212eff271151ae0a06dd8ed5e9944b25cf6c4302a72f2a6e97089", func := "carcanet/carcanetlaw03.GraphNormal", spec := "graphNormal", unfollowed := true, recurses := true, apart := false, narrowed := true }
def GraphNormalUptoSaid : Prop := graphNormalUptoRow.holds Try.pinned (OpenSpec.upto graphNormalSpec)

/-- 'carcanetlaw03.GraphRight', WHERE WHAT IT READS IS OF BULK AT MOST 1048576: true; the input reads as it did. -/
def graphRightUptoRow : OpenClaim := { program := "ytdjanabcicdmlaa", sum := "e9c68ff831a212eff271151ae0a06dd8ed5e9944b25cf6c4302a72f2a6e97089", func := "carcanet/carcanetlaw03.GraphRight", spec := "graphRight", unfollowed := true, recurses := true, apart := false, narrowed := true }
def GraphRightUptoSaid : Prop := graphRightUptoRow.holds Try.pinned (OpenSpec.upto graphRightSpec)

/-- 'carcanetlaw03.GraphAdds', WHERE WHAT IT READS IS OF BULK AT MOST 1048576: true; the input reads as it did. -/
def graphAddsUptoRow : OpenClaim := { program := "ytdjanabcicdmlaa", sum := "e9c68ff831a212eff271151ae0a06dd8ed5e9944b25cf6c4302a72f2a6e97089", func := "carcanet/carcanetlaw03.GraphAdds", spec := "graphAdds", unfollowed := true, recurses := true, apart := false, narrowed := true }
def GraphAddsUptoSaid : Prop := graphAddsUptoRow.holds Try.pinned (OpenSpec.upto graphAddsSpec)

/-- 'carcanetlaw03.GraphSet', WHERE WHAT IT READS IS OF BULK AT MOST 1048576: true; the input reads as it did. -/
def graphSetUptoRow : OpenClaim := { program := "ytdjanabcicdmlaa", sum := "e9c68ff831a212eff271151ae0a06dd8ed5e9944b25cf6c4302a72f2a6e97089", func := "carcanet/carcanetlaw03.GraphSet", spec := "graphSet", unfollowed := true, recurses := true, apart := false, narrowed := true }
def GraphSetUptoSaid : Prop := graphSetUptoRow.holds Try.pinned (OpenSpec.upto graphSetSpec)

/-- 'carcanetlaw03.GraphTurned', WHERE WHAT IT READS IS OF BULK AT MOST 1048576: true; the input reads as it did. -/
def graphTurnedUptoRow : OpenClaim := { program := "ytdjanabcicdmlaa", sum := "e9c68ff831a212eff271151ae0a06dd8ed5e9944b25cf6c4302a72f2a6e97089", func := "carcanet/carcanetlaw03.GraphTurned", spec := "graphTurned", unfollowed := true, recurses := true, apart := false, narrowed := true }
def GraphTurnedUptoSaid : Prop := graphTurnedUptoRow.holds Try.pinned (OpenSpec.upto graphTurnedSpec)

/-- 'carcanetlaw03.GraphBack', WHERE WHAT IT READS IS OF BULK AT MOST 1048576: true; the input reads as it did. -/
def graphBackUptoRow : OpenClaim := { program := "ytdjanabcicdmlaa", sum := "e9c68ff831a212eff271151ae0a06dd8ed5e9944b25cf6c4302a72f2a6e97089", func := "carcanet/carcanetlaw03.GraphBack", spec := "graphBack", unfollowed := true, recurses := true, apart := false, narrowed := true }
def GraphBackUptoSaid : Prop := graphBackUptoRow.holds Try.pinned (OpenSpec.upto graphBackSpec)

/-- 'carcanetlaw03.GraphSum', WHERE WHAT IT READS IS OF BULK AT MOST 1048576: true; the input reads as it did. -/
def graphSumUptoRow : OpenClaim := { program := "ytdjanabcicdmlaa", sum := "e9c68ff831a212eff271151ae0a06dd8ed5e9944b25cf6c4302a72f2a6e97089", func := "carcanet/carcanetlaw03.GraphSum", spec := "graphSum", unfollowed := true, recurses := true, apart := false, narrowed := true }
def GraphSumUptoSaid : Prop := graphSumUptoRow.holds Try.pinned (OpenSpec.upto graphSumSpec)

end Rows
end Go.Proofs.Ytdjanabcicdmlaa
