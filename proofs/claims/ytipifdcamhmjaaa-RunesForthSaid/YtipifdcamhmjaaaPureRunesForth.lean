/- RunesForth: what was encoded, decoded, is the runes; if one may not be, ErrText: for every row of runes (the first thousand). No condition but the form's own reach. -/
import Derived.Test.YtipifdcamhmjaaaRnD
import Derived.Test.YtipifdcamhmjaaaRnE
import Derived.Test.YtipifdcamhmjaaaPureRunesTell
import Derived.Test.YtipifdcamhmjaaaPGx7
namespace Go.Proofs.Ytipifdcamhmjaaa.Pure
open Go.RowKit Go.Proofs.Ytipifdcamhmjaaa.PG Go.Proofs.YtipifdcamhmjaaaW.PrintWords Go.Proofs.YtipifdcamhmjaaaW.PrintLast Go.Proofs.YtipifdcamhmjaaaW.PrintMore Go.Proofs.Ytipifdcamhmjaaa.Rn

theorem forth_may (l : List Int) (hl : l.length ≤ 100000) : ∀ (d k i : Nat) (b : Bool), l.length - i = d → i ≤ l.length → 1 ≤ k →
    carcanetlaw01_RunesForth.l0 (k + d) l true b (i : Int) = carcanetlaw01_RunesForth.l0 k l true (b && may (l.drop i)) (l.length : Int) := by
  intro d
  induction d with
  | zero =>
    intro k i b hd hi hk
    have : i = l.length := by omega
    subst this
    rw [List.drop_length]
    simp [may]
  | succ d ih =>
    intro k i b hd hi hk
    rw [show k + (d + 1) = (k + d) + 1 from rfl]
    rw [carcanetlaw01_RunesForth.l0]
    obtain ⟨j, hj⟩ : ∃ j, k + d = j + 1 := ⟨k + d - 1, by omega⟩
    have hn := ih k (i + 1)
    rw [rd_drop l i (by omega), if_pos (by omega)]
    have hw : wrap64 ((i : Int) + 1) = ((i + 1 : Nat) : Int) := by rw [wrap_id (by omega) (by omega)]; omega
    rw [hw]
    cases b with
    | true =>
      rw [if_pos rfl, if_pos (by omega), hj, width_is]
      simp only [Option.bind_some]
      rw [← hj, hn _ (by omega) (by omega) hk]
      congr 1
      simp only [may, List.all_cons, Bool.true_and]
      congr 1
      rw [decide_eq_decide]; omega
    | false =>
      rw [if_neg (by simp), hn _ (by omega) (by omega) hk]
      simp
theorem forth_same (l : List Int) (hl : l.length ≤ 100000) (m : List S39) (hm : m.map (fun p => p.f1) = l) : ∀ (d k i : Nat), l.length - i = d → i ≤ l.length → d < k →
    carcanetlaw01_RunesForth.l1 k l true m (i : Int) = some true := by
  have hml : m.length = l.length := by rw [← hm, List.length_map]
  intro d
  induction d with
  | zero =>
    intro k i hd hi hk
    obtain ⟨k, rfl⟩ : ∃ m, k = m + 1 := ⟨k - 1, by omega⟩
    simp only [carcanetlaw01_RunesForth.l1]
    rw [if_neg (by omega)]
  | succ d ih =>
    intro k i hd hi hk
    obtain ⟨k, rfl⟩ : ∃ m, k = m + 1 := ⟨k - 1, by omega⟩
    simp only [carcanetlaw01_RunesForth.l1]
    have h1 : i < m.length := by omega
    have e : (rd_T39 m (i : Int)).f1 = rd l (i : Int) := by
      have e1 : rd_T39 m (i : Int) = m[i] := by simp [rd_T39, h1]
      have e2 : rd l (i : Int) = l[i]'(by omega) := by simp [rd, show i < l.length by omega]
      rw [e1, e2]
      have : l[i]'(by omega) = (m.map fun p => p.f1)[i]'(by rw [List.length_map]; exact h1) := by simp only [hm]
      rw [this, List.getElem_map]
    rw [if_pos (by omega), if_pos (by omega), if_pos (by omega), if_pos e, wrap_id (by omega) (by omega)]
    have := ih k (i + 1) (by omega) (by omega) (by omega)
    rw [← this]; congr 1
theorem RunesForth : carcanetlaw01_RunesForth.Pure := by
  intro l0 _ _ hw
  unfold carcanetlaw01_RunesForth.f
  have h : 0 ≤ mn (l0.length : Int) 1000 ∧ mn (l0.length : Int) 1000 ≤ l0.length ∧ mn (l0.length : Int) 1000 ≤ 1000 := by
    unfold mn; split <;> omega
  have hl : (l0.take (mn (l0.length : Int) 1000).toNat).length ≤ 1000 := by rw [List.length_take]; omega
  obtain ⟨K, hK⟩ : ∃ K : Nat, 10000 ≤ K := ⟨10000, Nat.le_refl _⟩
  refine ⟨K + 2 + (l0.take (mn (l0.length : Int) 1000).toNat).length, ?_⟩
  rw [shown_at _ (by omega)]
  simp only [Option.bind_some]
  rw [if_pos h.1, if_pos h.2.1]
  generalize l0.take (mn (l0.length : Int) 1000).toNat = l at hl
  have := forth_may l (by omega) l.length (K + 2) 0 true (by omega) (Nat.zero_le _) (by omega)
  rw [List.drop_zero, Bool.true_and] at this
  rw [show ((0 : Nat) : Int) = 0 from rfl] at this
  rw [this, show K + 2 = (K + 1) + 1 from rfl, carcanetlaw01_RunesForth.l0, if_neg (by omega), encode_tells l (by omega) _ (by omega)]
  cases hm : may l with
  | true =>
    have hen := run_enc l (by
      intro r hr
      have := List.all_eq_true.1 hm r hr
      simpa using this)
    have hbs : bytesOf (strOfNums (encAll l)) = l.flatMap enc := nums_bytes _ (encAll_byte l)
    have hsz : (strOfNums (encAll l)).size ≤ 4000 := by
      rw [strOfNums_size]
      have := encAll_length l
      omega
    simp only [Option.bind_some, if_true]
    rw [decode_tells _ (by omega) _ (by omega), hbs, fin_eq]
    rcases err_cases (runs (l.flatMap enc)) with ⟨h1, h2, h3, h4⟩ | ⟨h1, h2, b, h3, _⟩
    · simp only [Option.bind_some]
      rw [h1, h3, h4, if_pos (by simp), if_pos (by simp), List.length_map]
      have hlen : (runs (l.flatMap enc)).1.length = l.length := by rw [← List.length_map (f := Prod.snd), hen.2]
      have hb : (((runs (l.flatMap enc)).1.length : Int) != (l.length : Int)) = false := by rw [hlen]; simp
      rw [hb, carcanetlaw01_RunesForth.j1, if_neg (by simp)]
      refine forth_same l (by omega) _ ?_ l.length _ 0 (by omega) (Nat.zero_le _) (by omega)
      rw [List.map_map]
      exact hen.2
    · rw [hen.1] at h3; simp at h3
  | false =>
    simp only [Option.bind_some, Bool.false_eq_true, if_false, if_true]
    rw [ByteArray.toList_eq]
    rfl
end Go.Proofs.Ytipifdcamhmjaaa.Pure
