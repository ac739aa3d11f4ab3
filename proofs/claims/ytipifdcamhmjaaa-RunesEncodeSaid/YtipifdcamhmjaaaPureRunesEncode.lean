/- RunesEncode: runes' bytes are what the document's reference says, for every row of runes (the first thousand). No condition but the form's own reach. -/
import Derived.Test.YtipifdcamhmjaaaRnD
import Derived.Test.YtipifdcamhmjaaaPGx6
namespace Go.Proofs.Ytipifdcamhmjaaa.Pure
open Go.RowKit Go.Proofs.Ytipifdcamhmjaaa.PG Go.Proofs.YtipifdcamhmjaaaW.PrintWords Go.Proofs.YtipifdcamhmjaaaW.PrintLast Go.Proofs.YtipifdcamhmjaaaW.PrintMore Go.Proofs.Ytipifdcamhmjaaa.Rn

theorem RunesEncode : carcanetlaw01_RunesEncode.Pure := by
  intro l0 _ _ hw
  refine ⟨10000, ?_⟩
  unfold carcanetlaw01_RunesEncode.f
  have h : 0 ≤ mn (l0.length : Int) 1000 ∧ mn (l0.length : Int) 1000 ≤ l0.length ∧ mn (l0.length : Int) 1000 ≤ 1000 := by
    unfold mn; split <;> omega
  rw [shown_at _ (by omega)]
  simp only [Option.bind_some]
  rw [if_pos h.1, if_pos h.2.1]
  have hl : (l0.take (mn (l0.length : Int) 1000).toNat).length ≤ 1000 := by rw [List.length_take]; omega
  have hb : ∀ x ∈ l0.take (mn (l0.length : Int) 1000).toNat, -2147483648 ≤ x ∧ x ≤ 2147483647 := by
    intro x hx
    have := hw x (List.mem_of_mem_take hx)
    simp only [Lit.wf, IntKind.min, IntKind.max, IntKind.signed, IntKind.bits, Bool.and_eq_true, decide_eq_true_eq, if_true] at this
    omega
  generalize l0.take (mn (l0.length : Int) 1000).toNat = l at hl hb
  rw [encode_tells l (by omega) _ (by omega), refencode_tells l (by omega) hb _ (by omega)]
  simp
end Go.Proofs.Ytipifdcamhmjaaa.Pure
