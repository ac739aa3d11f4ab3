/- RunesKinds: a rune's width and kind are what the document's reference says, for every number. No condition. -/
import Derived.Test.YtipifdcamhmjaaaRnD
import Derived.Test.YtipifdcamhmjaaaPGx6
namespace Go.Proofs.Ytipifdcamhmjaaa.Pure
open Go.RowKit Go.Proofs.Ytipifdcamhmjaaa.PG Go.Proofs.YtipifdcamhmjaaaW.PrintWords Go.Proofs.YtipifdcamhmjaaaW.PrintLast Go.Proofs.YtipifdcamhmjaaaW.PrintMore Go.Proofs.Ytipifdcamhmjaaa.Rn

theorem RunesKinds : carcanetlaw01_RunesKinds.Pure := by
  intro r hw
  refine ⟨1000, ?_⟩
  have hb : -2147483648 ≤ r ∧ r ≤ 2147483647 := by
    simp only [Lit.wf, IntKind.min, IntKind.max, IntKind.signed, IntKind.bits, Bool.and_eq_true, decide_eq_true_eq, if_true] at hw
    omega
  unfold carcanetlaw01_RunesKinds.f
  rw [shown_at _ (by omega)]
  simp only [Option.bind_some]
  rw [if_pos (by simp), width_is 999, refwidth_is 999 r hb.1 hb.2]
  simp only [Option.bind_some]
  rw [if_pos (by simp), kind_tells 996 r, refkind_tells 996 r hb.1 hb.2]
  simp
end Go.Proofs.Ytipifdcamhmjaaa.Pure
