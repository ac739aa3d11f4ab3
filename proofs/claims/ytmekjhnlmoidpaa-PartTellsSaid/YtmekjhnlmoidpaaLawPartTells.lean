/- PartTells: at every input that the statement lets in the law answers yes. -/
import Derived.Test.YtmekjhnlmoidpaaRows
import Derived.Test.YtmekjhnlmoidpaaK18
import Derived.Test.YtmekjhnlmoidpaaK17
import Derived.Test.YtmekjhnlmoidpaaK13
import Derived.WalkKit
import Derived.ProofKit
import Derived.OpenShut
import Derived.ShutString
import Derived.ChangeOld
import Derived.Below
import Derived.SizedLaws
namespace Go.Proofs.Ytmekjhnlmoidpaa.partTells
open Go.ChangeShapes Go.WideShapes Go.ChangeAt Go.RowKit
open Go.Ai Go.Ai.G Go.Proofs.Ytmekjhnlmoidpaa.M
set_option linter.unusedVariables false
theorem own : ownKnob Try.prog.godebug = none := by kernel_rfl
theorem laidOut : laidOutB Try.prog = true := by kernel_rfl
set_option maxRecDepth 100000 in
theorem lifted (os : Os) (started : os.Started) (H : Type) (enc : TypeId × Value → H) :
    ReturnsInHanded {} Try.checked os 3 .any (Rows.partTellsSpec.pre6 enc Try.prog Try.f3 Rows.partTellsRow.domain false) (Rows.partTellsSpec.post enc Try.prog Try.f3 false true false false) := by
  refine returnsInHanded_of_change_sized (C := Try.checked) own started (by kernel_rfl) Try.func3
    (ChangeSpec.witness6 (enc := enc) (C := Try.checked) false ⟨#[], #[.int .i64 0, .slice none 0 0], []⟩ 8 (by kernel_rfl) (by kernel_rfl) (by kernel_rfl) (by kernel_rfl)) ?_
  intro W base args ds gs before hval0 hW hcnd hsz0 _
  have hval : ∀ (j : Nat) t v, Try.f3.params[j]? = some t → args[j]? = some v → Value.okWide Try.prog W .any base t v := hval0
  have hW' := hW
  obtain ⟨p, q, hA0, hV, rfl, hfz, hnd⟩ := hW
  have hA : DataW.TrodAll enc Try.prog W 0 (fun _ => true) true Try.f3.params.toList args.toList ds p := hA0
  rw [Try.params3] at hA hval
  obtain ⟨v0, vs0, d0, ds0, p0, q0, hargs0, rfl, rfl, h0, r0⟩ := trodAll_cons hA
  obtain ⟨v1, vs1, d1, ds1, p1, q1, hargs1, rfl, rfl, h1, r1⟩ := trodAll_cons r0
  obtain ⟨rfl, rfl, rfl⟩ := trodAll_nil r1
  obtain rfl : args = #[v0, v1] := by cases args; simp_all
  obtain ⟨rfl, rfl⟩ := trodVars_none hV
  obtain ⟨a0, rfl, rfl, rfl, w0⟩ := open_int Try.underlying3 (hval 0 3 v0 rfl rfl) h0
  have k1 := h1
  have lt1 : ∀ x ∈ p1, x.block < W.heap.size := by obtain ⟨m, hm⟩ := k1; exact DataW.trod_lt m _ _ _ hm
  obtain ⟨av1, es1, hIs1, hVR1, hle1, hb1⟩ := open_edges Try.underlying22 (by kernel_rfl) (by kernel_rfl) (hval 1 22 v1 rfl rfl) h1
  refine (PVal.calls extOk chkAll (w_PartTells ⟨rfl, rfl⟩ shown stt4 a0 av1 es1 hIs1 ) (W := W) (us := [.int .i64 a0, v1]) (VRs.cons (.int _ _) (VRs.cons hVR1 (VRs.nil _)))).mono fun e W' ⟨⟨u, ν, he, hu⟩, bel⟩ => ?_
  subst he
  cases hu
  exact ⟨_, rfl, _, _, _, [], _, [], hW', trodAll_mk1 (shut_bool Try.underlying4 _), (trodAll_cons_mk (shut_int Try.underlying3 w0) (trodAll_cons_mk (Below.trod laidOut (by kernel_rfl) (of_decide_eq_true (by kernel_rfl)) k1 bel lt1) trodAll_mk0)), rfl, bel.frame _, fun h => by cases h⟩
theorem over : Rows.partTellsRow.holds Try.pinned (OpenSpec.ofChange Rows.partTellsSpec) :=
  OpenClaim.holds_of_wide 3 Try.f3 rfl rfl rfl rfl rfl rfl rfl ⟨rfl, rfl, rfl, rfl, rfl⟩ rfl rfl rfl rfl rfl (by kernel_rfl) Try.func3 (by kernel_rfl)
    (of_decide_eq_true (by kernel_rfl)) (by unfold Func.isWrapper; first | (rw [if_pos (by decide +kernel)]; kernel_rfl) | (rw [if_neg (by decide +kernel)]; exact ⟨rfl, rfl⟩))
    (fun os started H enc _ => lifted os started H enc)
theorem proved : Rows.PartTellsSaid := over
#print axioms proved
end Go.Proofs.Ytmekjhnlmoidpaa.partTells
namespace Go.Proofs.Ytmekjhnlmoidpaa
/-- The row, under a short name, for the claim. -/
theorem partTells_holds : Rows.PartTellsSaid := partTells.proved
end Go.Proofs.Ytmekjhnlmoidpaa
