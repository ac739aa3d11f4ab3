/- SubTriangle: at every input that the statement lets in the law answers yes. -/
import Derived.Test.YtgoiomkgedcfjaaRows
import Derived.Test.YtgoiomkgedcfjaaK17
import Derived.Test.YtgoiomkgedcfjaaK13
import Derived.Test.YtgoiomkgedcfjaaK10
import Derived.WalkKit
import Derived.ProofKit
import Derived.OpenShut
import Derived.ShutString
import Derived.ChangeOld
import Derived.Below
import Derived.SizedLaws
namespace Go.Proofs.Ytgoiomkgedcfjaa.subTriangle
open Go.ChangeShapes Go.WideShapes Go.ChangeAt Go.RowKit
open Go.Ai Go.Ai.G Go.Proofs.Ytgoiomkgedcfjaa.M
set_option linter.unusedVariables false
theorem own : ownKnob Try.prog.godebug = none := by kernel_rfl
theorem laidOut : laidOutB Try.prog = true := by kernel_rfl
set_option maxRecDepth 100000 in
theorem lifted (os : Os) (started : os.Started) (H : Type) (enc : TypeId × Value → H) :
    ReturnsInHanded {} Try.checked os 8 .any (Rows.subTriangleSpec.pre6 enc Try.prog Try.f8 Rows.subTriangleRow.domain false) (Rows.subTriangleSpec.post enc Try.prog Try.f8 false true false false) := by
  refine returnsInHanded_of_change_sized (C := Try.checked) own started (by kernel_rfl) Try.func8
    (ChangeSpec.witness6 (enc := enc) (C := Try.checked) false ⟨#[], #[.agg #[.int .i64 0, .slice none 0 0], .agg #[.int .i64 0, .int .i64 0, .int .i64 0]], []⟩ 8 (by kernel_rfl) (by kernel_rfl) (by kernel_rfl) (by kernel_rfl)) ?_
  intro W base args ds gs before hval0 hW hcnd hsz0 _
  have hval : ∀ (j : Nat) t v, Try.f8.params[j]? = some t → args[j]? = some v → Value.okWide Try.prog W .any base t v := hval0
  have hW' := hW
  obtain ⟨p, q, hA0, hV, rfl, hfz, hnd⟩ := hW
  have hA : DataW.TrodAll enc Try.prog W 0 (fun _ => true) true Try.f8.params.toList args.toList ds p := hA0
  rw [Try.params8] at hA hval
  obtain ⟨v0, vs0, d0, ds0, p0, q0, hargs0, rfl, rfl, h0, r0⟩ := trodAll_cons hA
  obtain ⟨v1, vs1, d1, ds1, p1, q1, hargs1, rfl, rfl, h1, r1⟩ := trodAll_cons r0
  obtain ⟨rfl, rfl, rfl⟩ := trodAll_nil r1
  obtain rfl : args = #[v0, v1] := by cases args; simp_all
  obtain ⟨rfl, rfl⟩ := trodVars_none hV
  have k0 := h0
  have lt0 : ∀ x ∈ p0, x.block < W.heap.size := by obtain ⟨m, hm⟩ := k0; exact DataW.trod_lt m _ _ _ hm
  obtain ⟨n0, av0, es0, hIs0, hVR0, hle0, hbn0, hb0⟩ := open_graph (i := 3) (s := 22) (e := 43) (by kernel_rfl) Try.underlying3 Try.underlying22 (by kernel_rfl) (by kernel_rfl) (hval 0 24 v0 rfl rfl) h0
  have k1 := h1
  have lt1 : ∀ x ∈ p1, x.block < W.heap.size := by obtain ⟨m, hm⟩ := k1; exact DataW.trod_lt m _ _ _ hm
  obtain ⟨a1, b1, c1, hVR1⟩ := open_arr3 Try.underlying39 Try.underlying3 (by kernel_rfl) (by kernel_rfl) (hval 1 39 v1 rfl rfl) h1
  refine (PVal.calls extOk chkAll (w_SubTriangle ⟨rfl, rfl⟩ shown srt n0 av0 es0 hIs0 a1 b1 c1 ) (W := W) (us := [v0, v1]) (VRs.cons hVR0 (VRs.cons hVR1 (VRs.nil _)))).mono fun e W' ⟨⟨u, ν, he, hu⟩, bel⟩ => ?_
  subst he
  cases hu
  exact ⟨_, rfl, _, _, _, [], _, [], hW', trodAll_mk1 (shut_bool Try.underlying4 _), (trodAll_cons_mk (Below.trod laidOut (by kernel_rfl) (of_decide_eq_true (by kernel_rfl)) k0 bel lt0) (trodAll_cons_mk (Below.trod laidOut (by kernel_rfl) (of_decide_eq_true (by kernel_rfl)) k1 bel lt1) trodAll_mk0)), rfl, bel.frame _, fun h => by cases h⟩
theorem over : Rows.subTriangleRow.holds Try.pinned (OpenSpec.ofChange Rows.subTriangleSpec) :=
  OpenClaim.holds_of_wide 8 Try.f8 rfl rfl rfl rfl rfl rfl rfl ⟨rfl, rfl, rfl, rfl, rfl⟩ rfl rfl rfl rfl rfl (by kernel_rfl) Try.func8 (by kernel_rfl)
    (of_decide_eq_true (by kernel_rfl)) (by unfold Func.isWrapper; first | (rw [if_pos (by decide +kernel)]; kernel_rfl) | (rw [if_neg (by decide +kernel)]; exact ⟨rfl, rfl⟩))
    (fun os started H enc _ => lifted os started H enc)
theorem proved : Rows.SubTriangleSaid := over
#print axioms proved
end Go.Proofs.Ytgoiomkgedcfjaa.subTriangle
namespace Go.Proofs.Ytgoiomkgedcfjaa
/-- The row, under a short name, for the claim. -/
theorem subTriangle_holds : Rows.SubTriangleSaid := subTriangle.proved
end Go.Proofs.Ytgoiomkgedcfjaa
