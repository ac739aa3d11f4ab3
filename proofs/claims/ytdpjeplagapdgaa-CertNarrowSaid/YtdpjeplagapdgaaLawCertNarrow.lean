/- CertNarrow: at every input that the statement lets in the law answers yes. -/
import Derived.Test.YtdpjeplagapdgaaRows
import Derived.Test.YtdpjeplagapdgaaK11
import Derived.Test.YtdpjeplagapdgaaK10
import Derived.Test.YtdpjeplagapdgaaK8
import Derived.WalkKit
import Derived.ProofKit
import Derived.OpenShut
import Derived.ShutString
import Derived.ChangeOld
import Derived.Below
import Derived.SizedLaws
namespace Go.Proofs.Ytdpjeplagapdgaa.certNarrow
open Go.ChangeShapes Go.WideShapes Go.ChangeAt Go.RowKit
open Go.Ai Go.Ai.G Go.Proofs.Ytdpjeplagapdgaa.M
set_option linter.unusedVariables false
theorem own : ownKnob Try.prog.godebug = none := by kernel_rfl
theorem laidOut : laidOutB Try.prog = true := by kernel_rfl
set_option maxRecDepth 100000 in
theorem lifted (os : Os) (started : os.Started) (H : Type) (enc : TypeId × Value → H) :
    ReturnsInHanded {} Try.checked os 6 .any (Rows.certNarrowSpec.pre6 enc Try.prog Try.f6 Rows.certNarrowRow.domain false) (Rows.certNarrowSpec.post enc Try.prog Try.f6 false true false false) := by
  refine returnsInHanded_of_change_sized (C := Try.checked) own started (by kernel_rfl) Try.func6
    (ChangeSpec.witness6 (enc := enc) (C := Try.checked) false ⟨#[], #[.agg #[.slice none 0 0, .slice none 0 0], .slice none 0 0, .agg #[.int .i64 0, .slice none 0 0]], []⟩ 8 (by kernel_rfl) (by kernel_rfl) (by kernel_rfl) (by kernel_rfl)) ?_
  intro W base args ds gs before hval0 hW hcnd hsz0 _
  have hval : ∀ (j : Nat) t v, Try.f6.params[j]? = some t → args[j]? = some v → Value.okWide Try.prog W .any base t v := hval0
  have hW' := hW
  obtain ⟨p, q, hA0, hV, rfl, hfz, hnd⟩ := hW
  have hA : DataW.TrodAll enc Try.prog W 0 (fun _ => true) true Try.f6.params.toList args.toList ds p := hA0
  rw [Try.params6] at hA hval
  obtain ⟨v0, vs0, d0, ds0, p0, q0, hargs0, rfl, rfl, h0, r0⟩ := trodAll_cons hA
  obtain ⟨v1, vs1, d1, ds1, p1, q1, hargs1, rfl, rfl, h1, r1⟩ := trodAll_cons r0
  obtain ⟨v2, vs2, d2, ds2, p2, q2, hargs2, rfl, rfl, h2, r2⟩ := trodAll_cons r1
  obtain ⟨rfl, rfl, rfl⟩ := trodAll_nil r2
  obtain rfl : args = #[v0, v1, v2] := by cases args; simp_all
  obtain ⟨rfl, rfl⟩ := trodVars_none hV
  have k0 := h0
  have lt0 : ∀ x ∈ p0, x.block < W.heap.size := by obtain ⟨m, hm⟩ := k0; exact DataW.trod_lt m _ _ _ hm
  obtain ⟨av0, bv0, fs0, es0, hIs0, hJs0, hVR0⟩ := open_bags (i := 3) (s := 22) (r := 33) Try.underlying55 (by kernel_rfl) Try.underlying3 Try.underlying22 Try.underlying33 (by kernel_rfl) (by kernel_rfl) (hval 0 55 v0 rfl rfl) h0
  have k1 := h1
  have lt1 : ∀ x ∈ p1, x.block < W.heap.size := by obtain ⟨m, hm⟩ := k1; exact DataW.trod_lt m _ _ _ hm
  obtain ⟨av1, ts1, hIs1, hVR1⟩ := open_trees (i := 3) Try.underlying56 Try.underlying65 (by kernel_rfl) Try.underlying3 (by kernel_rfl) (by kernel_rfl) (hval 1 56 v1 rfl rfl) h1
  have k2 := h2
  have lt2 : ∀ x ∈ p2, x.block < W.heap.size := by obtain ⟨m, hm⟩ := k2; exact DataW.trod_lt m _ _ _ hm
  obtain ⟨e2, av2, cs2, hIs2, hVR2⟩ := open_trace (i := 3) (s := 57) Try.underlying59 (by kernel_rfl) Try.underlying57 (by kernel_rfl) Try.underlying3 (by kernel_rfl) (hval 2 59 v2 rfl rfl) h2
  refine (PVal.calls extOk chkAll (w_CertNarrow ⟨rfl, rfl⟩ shown n22 av0 bv0 fs0 es0 hIs0 hJs0 av1 ts1 hIs1 e2 av2 cs2 hIs2 ) (W := W) (us := [v0, v1, v2]) (VRs.cons hVR0 (VRs.cons hVR1 (VRs.cons hVR2 (VRs.nil _))))).mono fun e W' ⟨⟨u, ν, he, hu⟩, bel⟩ => ?_
  subst he
  cases hu
  exact ⟨_, rfl, _, _, _, [], _, [], hW', trodAll_mk1 (shut_bool Try.underlying4 _), (trodAll_cons_mk (Below.trod laidOut (by kernel_rfl) (of_decide_eq_true (by kernel_rfl)) k0 bel lt0) (trodAll_cons_mk (Below.trod laidOut (by kernel_rfl) (of_decide_eq_true (by kernel_rfl)) k1 bel lt1) (trodAll_cons_mk (Below.trod laidOut (by kernel_rfl) (of_decide_eq_true (by kernel_rfl)) k2 bel lt2) trodAll_mk0))), rfl, bel.frame _, fun h => by cases h⟩
theorem over : Rows.certNarrowRow.holds Try.pinned (OpenSpec.ofChange Rows.certNarrowSpec) :=
  OpenClaim.holds_of_wide 6 Try.f6 rfl rfl rfl rfl rfl rfl rfl ⟨rfl, rfl, rfl, rfl, rfl⟩ rfl rfl rfl rfl rfl (by kernel_rfl) Try.func6 (by kernel_rfl)
    (of_decide_eq_true (by kernel_rfl)) (by unfold Func.isWrapper; first | (rw [if_pos (by decide +kernel)]; kernel_rfl) | (rw [if_neg (by decide +kernel)]; exact ⟨rfl, rfl⟩))
    (fun os started H enc _ => lifted os started H enc)
theorem proved : Rows.CertNarrowSaid := over
#print axioms proved
end Go.Proofs.Ytdpjeplagapdgaa.certNarrow
namespace Go.Proofs.Ytdpjeplagapdgaa
/-- The row, under a short name, for the claim. -/
theorem certNarrow_holds : Rows.CertNarrowSaid := certNarrow.proved
end Go.Proofs.Ytdpjeplagapdgaa
