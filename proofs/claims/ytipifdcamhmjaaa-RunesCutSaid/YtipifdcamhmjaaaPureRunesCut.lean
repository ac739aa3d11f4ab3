/- RunesCut: a text that is cut between two runes is two texts; within one, the first part ends in an error at that rune: for every text (its first thousand bytes), cut anywhere. No condition but the form's own reach. -/
import Derived.Test.YtipifdcamhmjaaaRnD
import Derived.Test.YtipifdcamhmjaaaRnE
import Derived.Test.YtipifdcamhmjaaaPureRunesTell
import Derived.Test.YtipifdcamhmjaaaPGx8
namespace Go.Proofs.Ytipifdcamhmjaaa.Pure
open Go.RowKit Go.Proofs.Ytipifdcamhmjaaa.PG Go.Proofs.YtipifdcamhmjaaaW.PrintWords Go.Proofs.YtipifdcamhmjaaaW.PrintLast Go.Proofs.YtipifdcamhmjaaaW.PrintMore Go.Proofs.Ytipifdcamhmjaaa.Rn

theorem and16 (n : Int) : bits .and .i64 n 65535 = n % 65536 := by
  have h127 : (BitVec.ofInt 64 65535).toNat = 2 ^ 16 - 1 := by decide
  have key : (BitVec.ofInt 64 n &&& BitVec.ofInt 64 65535).toNat = (n % ((2 ^ 64 : Nat) : Int)).toNat % 2 ^ 16 := by
    rw [BitVec.toNat_and, BitVec.toNat_ofInt, h127, Nat.and_two_pow_sub_one_eq_mod]
  show IntKind.i64.wrap ((BitVec.ofInt 64 n &&& BitVec.ofInt 64 65535).toNat : Nat) = n % 65536
  rw [key, IntKind.wrap_i64]
  omega
/-- Where the loop over the runes ends up. -/
def lastAt (m : List S39) (j i : Nat) (first n : Int) : Int × Int :=
  if i ≤ j ∧ i < m.length then ((rd_T39 m ((min j (m.length - 1) : Nat) : Int)).f0, ((min j (m.length - 1) : Nat) : Int)) else (first, n)
theorem cut_first (s : ByteArray) (a : Int) (m : List S39) (hm : m.length ≤ 100000) (j : Nat) (hj : ∀ i : Nat, i < m.length → ((rd_T39 m (i : Int)).f0 ≤ a ↔ i ≤ j)) : ∀ (d k i : Nat) (first n : Int), m.length - i = d → i ≤ m.length → 2 ≤ k →
    (∃ k', k ≤ k' + 1 ∧ carcanetlaw01_RunesCut.l0 (k + d) s a true m first n (i : Int) = carcanetlaw01_RunesCut.j1 k' s a true m (lastAt m j i first n).1 (lastAt m j i first n).2) := by
  intro d
  induction d with
  | zero =>
    intro k i first n hd hi hk
    obtain ⟨k, rfl⟩ : ∃ q, k = q + 1 := ⟨k - 1, by omega⟩
    refine ⟨k, by omega, ?_⟩
    rw [Nat.add_zero, carcanetlaw01_RunesCut.l0, if_neg (by omega)]
    unfold lastAt
    rw [if_neg (by omega)]
  | succ d ih =>
    intro k i first n hd hi hk
    rw [show k + (d + 1) = (k + d) + 1 from rfl, carcanetlaw01_RunesCut.l0, if_pos (by omega), if_pos (by omega)]
    have hc := hj i (by omega)
    by_cases hle : i ≤ j
    · have hw1 : wrap64 ((i : Int) + 1) = ((i + 1 : Nat) : Int) := by rw [wrap_id (by omega) (by omega)]; omega
      rw [if_pos (hc.2 hle), hw1]
      obtain ⟨k', hk', e⟩ := ih k (i + 1) (rd_T39 m (i : Int)).f0 (i : Int) (by omega) (by omega) hk
      refine ⟨k', hk', ?_⟩
      rw [e]
      have : lastAt m j (i + 1) (rd_T39 m (i : Int)).f0 (i : Int) = lastAt m j i first n := by
        unfold lastAt
        rw [if_pos (show i ≤ j ∧ i < m.length from ⟨hle, by omega⟩)]
        by_cases h : i + 1 ≤ j ∧ i + 1 < m.length
        · rw [if_pos h]
        · rw [if_neg h]
          have : min j (m.length - 1) = i := by omega
          rw [this]
      rw [this]
    · rw [if_neg (fun h => hle (hc.1 h))]
      refine ⟨k + d, by omega, ?_⟩
      unfold lastAt
      rw [if_neg (by omega)]
theorem fst_of (r : List (Int × Int) × Option Int) (h : r.2 = none) : okl r = r.1 ∧ err r = 0 := by
  rcases err_cases r with ⟨h1, _, h3, _⟩ | ⟨_, _, b, h3, _⟩
  · exact ⟨h3, h1⟩
  · rw [h] at h3; simp at h3
theorem RunesCut : carcanetlaw01_RunesCut.Pure := by
  intro a0 a1 h0 _
  unfold carcanetlaw01_RunesCut.f
  obtain ⟨c1, c2, c3⟩ := cut_size a0 1000 (by omega)
  generalize hs : a0.extract 0 (mn (a0.size : Int) 1000).toNat = s at c3
  have hL := bytesOf_length s
  have hol := okl_length (bytesOf s)
  obtain ⟨K, hK⟩ : ∃ K : Nat, 10000 ≤ K := ⟨10000, Nat.le_refl _⟩
  refine ⟨K + (okl (runs (bytesOf s))).length, ?_⟩
  rw [shown_at _ (by omega)]
  simp only [Option.bind_some]
  rw [if_pos c1, if_pos c2, wrap_id (i := (s.size : Int) + 1) (by omega) (by omega), if_neg (by omega), decode_tells s (by omega) _ (by omega), fin_eq]
  simp only [Option.bind_some]
  rcases err_cases (runs (bytesOf s)) with ⟨h1, h2, h3, h4⟩ | ⟨h1, h2, _⟩
  · rw [h1, if_pos (by simp)]
    have ha : ∃ at_ : Nat, Int.tmod (Go.bits .and .i64 a1 65535) ((s.size : Int) + 1) = (at_ : Int) ∧ at_ ≤ s.size := by
      have e := and16 a1
      rw [e, Int.tmod_eq_emod_of_nonneg (by omega)]
      have p1 := Int.emod_nonneg (a1 % 65536) (show ((s.size : Int) + 1) ≠ 0 by omega)
      have p2 := Int.emod_lt_of_pos (a1 % 65536) (show 0 < ((s.size : Int) + 1) by omega)
      exact ⟨((a1 % 65536) % ((s.size : Int) + 1)).toNat, by omega, by omega⟩
    obtain ⟨at_, ea, hat⟩ := ha
    rw [ea]
    obtain ⟨j, y, g1, g2, g3, g4, g5, g6, g7, g8, g9⟩ := cut_run (bytesOf s) at_ (by omega) ((bytesOf s).length + 1) 0 (Nat.zero_le _) (by omega) h2
    rw [h3] at hol ⊢
    have hR : (run ((bytesOf s).length + 1) (bytesOf s) 0) = runs (bytesOf s) := rfl
    rw [hR] at g3 g4 g6 g8 g9
    generalize hm : ((runs (bytesOf s)).1.map fun p => (⟨p.1, p.2⟩ : S39)) = m
    have hml : m.length = (runs (bytesOf s)).1.length := by rw [← hm, List.length_map]
    have hrd : ∀ i : Nat, ∀ h : i < (runs (bytesOf s)).1.length, (rd_T39 m (i : Int)).f0 = ((runs (bytesOf s)).1[i]).1 := by
      intro i hi
      rw [← hm]
      simp [rd_T39, hi]
    have hj : ∀ i : Nat, i < m.length → ((rd_T39 m (i : Int)).f0 ≤ (at_ : Int) ↔ i ≤ j) := by
      intro i hi
      rw [hrd i (by omega)]
      exact g9 i _ (List.getElem?_eq_getElem (by omega))
    obtain ⟨k', hk', e⟩ := cut_first s (at_ : Int) m (by omega) j hj m.length K 0 0 0 (by omega) (Nat.zero_le _) (by omega)
    rw [show ((0 : Nat) : Int) = 0 from rfl] at e
    rw [← hml, e]
    obtain ⟨k', rfl⟩ : ∃ q, k' = q + 1 := ⟨k' - 1, by omega⟩
    have ed1 : bytesOf (s.extract 0 ((at_ : Int)).toNat) = (bytesOf s).take at_ := by rw [bytesOf_extract, List.drop_zero]; rfl
    have ed2 : bytesOf (s.extract ((at_ : Int)).toNat s.size) = (bytesOf s).drop at_ := by rw [bytesOf_extract, List.take_of_length_le (by omega)]; rfl
    have es1 : (s.extract 0 ((at_ : Int)).toNat).size ≤ s.size := by rw [ByteArray.size_extract]; omega
    have es2 : (s.extract ((at_ : Int)).toNat s.size).size ≤ s.size := by rw [ByteArray.size_extract]; omega
    have er1 : runs ((bytesOf s).take at_) = run ((bytesOf s).length + 1) ((bytesOf s).take at_) 0 := run_fuel _ _ _ _ (by omega) (by rw [List.length_take]; omega)
    have er2 : run ((bytesOf s).length + 1) (bytesOf s) at_ = (shift at_ (runs ((bytesOf s).drop at_)).1, (runs ((bytesOf s).drop at_)).2.map (· + (at_ : Int))) := by
      have this : run ((bytesOf s).length + 1) (bytesOf s) at_ = _ := run_drop (bytesOf s) at_ ((bytesOf s).length + 1) 0
      rw [this]
      have e2 : run ((bytesOf s).length + 1) ((bytesOf s).drop at_) 0 = runs ((bytesOf s).drop at_) := run_fuel _ _ _ _ (by rw [List.length_drop]; omega) (by omega)
      rw [e2]
    simp only [carcanetlaw01_RunesCut.j1]
    rw [if_pos (by omega), if_pos (by omega), decode_tells _ (by omega) _ (by omega), decode_tells _ (by omega) _ (by omega), fin_eq, fin_eq, ed1, ed2]
    simp only [Option.bind_some, List.length_map]
    by_cases hy : y = at_
    · subst hy
      have t1 : (runs ((bytesOf s).take y)).2 = none := by rw [er1, g6, if_pos rfl]
      have t2 : (runs ((bytesOf s).drop y)).2 = none := by
        have := g5
        rw [er2] at this
        simpa using this
      have t3 : (runs ((bytesOf s).take y)).1.length = j := by rw [er1, g6, List.length_take]; omega
      have t4 : (runs ((bytesOf s).drop y)).1.length = (runs (bytesOf s)).1.length - j := by
        have := congrArg List.length g4
        rw [er2] at this
        simpa [shift] using this
      obtain ⟨u1, u2⟩ := fst_of _ t1
      obtain ⟨u3, u4⟩ := fst_of _ t2
      rw [u1, u2, u3, u4, t3, t4]
      by_cases hend : (y : Int) = (s.size : Int)
      · have hys : y = s.size := by omega
        have hjn : j = (runs (bytesOf s)).1.length := by
          have z : (runs ((bytesOf s).drop y)).1.length = 0 := by
            have := run_count ((bytesOf s).drop y) (((bytesOf s).drop y).length + 1) 0
            rw [List.length_drop] at this
            unfold runs; rw [List.length_drop]; omega
          omega
        rw [if_pos hend, if_pos (by simp), if_pos (by simp), if_pos (by simp), if_pos (by omega)]
        simp; omega
      · have hjl : j < (runs (bytesOf s)).1.length := by
          have := g8 (by omega)
          rcases Nat.lt_or_ge j (runs (bytesOf s)).1.length with h | h
          · exact h
          · rw [List.getElem?_eq_none h] at this; simp at this
        have hf : (rd_T39 m (j : Int)).f0 = (y : Int) := by
          rw [hrd j hjl]
          have := g8 (by omega)
          rw [List.getElem?_eq_getElem hjl] at this
          simpa using this
        have hlast : lastAt m j 0 0 0 = ((y : Int), (j : Int)) := by
          unfold lastAt
          rw [if_pos (by omega), show min j (m.length - 1) = j by omega, hf]
        rw [if_neg hend, hlast, if_neg (by omega), if_pos (by simp), if_pos (by simp), if_pos (by simp), if_pos (by simp), wrap_id (by omega) (by omega)]
        simp; omega
    · have hyl : at_ < s.size := by
        rcases Nat.lt_or_ge at_ s.size with h | h
        · exact h
        · have hd := g7 hy
          exfalso
          have hya : y < at_ := by omega
          have hyr := g5
          have : (run ((bytesOf s).length + 1) ((bytesOf s).take at_) 0).2 = some (y : Int) := by rw [g6, if_neg hy]
          rw [List.take_of_length_le (by omega)] at this
          have h2' : (run ((bytesOf s).length + 1) (bytesOf s) 0).2 = none := h2
          rw [h2'] at this; simp at this
      have t1 : (runs ((bytesOf s).take at_)).2 = some (y : Int) := by rw [er1, g6, if_neg hy]
      have t2 : runs ((bytesOf s).drop at_) = ([], some ((0 : Nat) : Int)) := by
        unfold runs
        exact run_bad (by rw [List.length_drop]; omega) (g7 hy)
      have hjl : j < (runs (bytesOf s)).1.length := by
        have := g8 (by omega)
        rcases Nat.lt_or_ge j (runs (bytesOf s)).1.length with h | h
        · exact h
        · rw [List.getElem?_eq_none h] at this; simp at this
      have hf : (rd_T39 m (j : Int)).f0 = (y : Int) := by
        rw [hrd j hjl]
        have := g8 (by omega)
        rw [List.getElem?_eq_getElem hjl] at this
        simpa using this
      have u1 : err (runs ((bytesOf s).take at_)) = 2 := by unfold err; rw [t1]
      have u2 : bad (runs ((bytesOf s).take at_)) = (y : Int) := by unfold bad; rw [t1]; rfl
      have u3 : err (runs ((bytesOf s).drop at_)) = 2 := by rw [t2]; rfl
      have hlast : lastAt m j 0 0 0 = ((y : Int), (j : Int)) := by
        unfold lastAt
        rw [if_pos (by omega), show min j (m.length - 1) = j by omega, hf]
      rw [u1, u2, u3, if_neg (by omega), hlast, if_pos (by omega), if_pos (by simp), if_pos (by simp), if_pos (by simp)]
      rfl
  · rw [h1, if_neg (by decide)]
end Go.Proofs.Ytipifdcamhmjaaa.Pure
