/- RunesJoin: two texts, one behind the other, have the runes of both, for every two texts (their first thousand bytes each). No condition but the form's own reach. -/
import Derived.Test.YtipifdcamhmjaaaRnD
import Derived.Test.YtipifdcamhmjaaaRnE
import Derived.Test.YtipifdcamhmjaaaPureRunesTell
import Derived.Test.YtipifdcamhmjaaaPGx9
namespace Go.Proofs.Ytipifdcamhmjaaa.Pure
open Go.RowKit Go.Proofs.Ytipifdcamhmjaaa.PG Go.Proofs.YtipifdcamhmjaaaW.PrintWords Go.Proofs.YtipifdcamhmjaaaW.PrintLast Go.Proofs.YtipifdcamhmjaaaW.PrintMore Go.Proofs.Ytipifdcamhmjaaa.Rn

theorem join_loop (s : ByteArray) (hs : s.size ≤ 100000) (rs ms : List (Int × Int)) (hr : rs.length ≤ 100000) (hm : ms.length ≤ 100000) (hp : ∀ p ∈ ms, 0 ≤ p.1 ∧ p.1 ≤ 100000) : ∀ (d k i : Nat), rs.length + ms.length - i = d → i ≤ rs.length + ms.length → d < k →
    carcanetlaw01_RunesJoin.l0 k s true (rs.map fun p => (⟨p.1, p.2⟩ : S39)) (ms.map fun p => (⟨p.1, p.2⟩ : S39)) ((rs ++ shift s.size ms).map fun p => (⟨p.1, p.2⟩ : S39)) (i : Int) = some true := by
  have hlen : ((rs ++ shift s.size ms).map fun p => (⟨p.1, p.2⟩ : S39)).length = rs.length + ms.length := by simp [shift]
  intro d
  induction d with
  | zero =>
    intro k i hd hi hk
    obtain ⟨k, rfl⟩ : ∃ m, k = m + 1 := ⟨k - 1, by omega⟩
    simp only [carcanetlaw01_RunesJoin.l0]
    rw [if_neg (by rw [hlen]; omega)]
  | succ d ih =>
    intro k i hd hi hk
    obtain ⟨k, rfl⟩ : ∃ m, k = m + 1 := ⟨k - 1, by omega⟩
    have next := ih k (i + 1) (by omega) (by omega) (by omega)
    rw [show ((i + 1 : Nat) : Int) = (i : Int) + 1 by omega] at next
    simp only [carcanetlaw01_RunesJoin.l0]
    rw [if_pos (by rw [hlen]; omega), wrap_id (i := (i : Int) + 1) (by omega) (by omega)]
    by_cases hlt : i < rs.length
    · have e1 : rd_T39 ((rs ++ shift s.size ms).map fun p => (⟨p.1, p.2⟩ : S39)) (i : Int) = ⟨rs[i].1, rs[i].2⟩ := by
        simp [rd_T39, List.getElem?_append_left (show i < (rs.map fun p => (⟨p.1, p.2⟩ : S39)).length by rw [List.length_map]; exact hlt), hlt]
      have e2 : rd_T39 (rs.map fun p => (⟨p.1, p.2⟩ : S39)) (i : Int) = ⟨rs[i].1, rs[i].2⟩ := by simp [rd_T39, hlt]
      rw [e1, e2, if_pos (by rw [List.length_map]; omega), if_pos (by omega), if_neg (by simp), if_neg (by rw [List.length_map]; omega)]
      exact next
    · have hlm : i - rs.length < ms.length := by omega
      have e1 : rd_T39 ((rs ++ shift s.size ms).map fun p => (⟨p.1, p.2⟩ : S39)) (i : Int) = ⟨ms[i - rs.length].1 + s.size, ms[i - rs.length].2⟩ := by
        simp [rd_T39, List.getElem?_append_right (show (rs.map fun p => (⟨p.1, p.2⟩ : S39)).length ≤ i by rw [List.length_map]; omega), hlm, shift]
      have ew : wrap64 ((i : Int) - ((rs.map fun p => (⟨p.1, p.2⟩ : S39)).length : Int)) = ((i - rs.length : Nat) : Int) := by rw [List.length_map, wrap_id (by omega) (by omega)]; omega
      have e2 : rd_T39 (ms.map fun p => (⟨p.1, p.2⟩ : S39)) ((i - rs.length : Nat) : Int) = ⟨ms[i - rs.length].1, ms[i - rs.length].2⟩ := by simp [rd_T39, hlm]
      have hpb := hp _ (List.getElem_mem hlm)
      rw [if_neg (by rw [List.length_map]; omega), if_pos (by rw [List.length_map]; omega), if_pos (by omega), ew, if_pos (by omega), if_pos (by rw [List.length_map]; omega), e1, e2, if_pos rfl, wrap_id (by show _ ≤ ms[i - rs.length].1 + (s.size : Int); omega) (by show ms[i - rs.length].1 + (s.size : Int) ≤ _; omega), if_pos rfl]
      exact next
theorem RunesJoin : carcanetlaw01_RunesJoin.Pure := by
  intro a0 a1 _ _
  obtain ⟨K, hK⟩ : ∃ K : Nat, 10000 ≤ K := ⟨10000, Nat.le_refl _⟩
  refine ⟨K + 1, ?_⟩
  unfold carcanetlaw01_RunesJoin.f
  obtain ⟨c1, c2, c3⟩ := cut_size a0 1000 (by omega)
  obtain ⟨d1, d2, d3⟩ := cut_size a1 1000 (by omega)
  rw [shown_at _ (by omega)]
  simp only [Option.bind_some]
  rw [if_pos c1, if_pos c2, if_pos d1, if_pos d2]
  generalize a0.extract 0 (mn (a0.size : Int) 1000).toNat = s at c3
  generalize a1.extract 0 (mn (a1.size : Int) 1000).toNat = t at d3
  have hL := bytesOf_length s
  have hM := bytesOf_length t
  have hol := okl_length (bytesOf s)
  have hom := okl_length (bytesOf t)
  have hst : (s ++ t).size = s.size + t.size := ByteArray.size_append
  rw [decode_tells s (by omega) _ (by omega), decode_tells t (by omega) _ (by omega), fin_eq, fin_eq]
  simp only [Option.bind_some]
  rcases err_cases (runs (bytesOf s)) with ⟨h1, h2, h3, h4⟩ | ⟨h1, h2, _⟩
  · rw [h1, if_pos (by simp), if_pos (by omega), decode_tells (s ++ t) (by omega) _ (by omega), fin_eq, bytesOf_append]
    simp only [Option.bind_some]
    have ha := runs_append (bytesOf s) (bytesOf t) h2
    rw [h3] at hol ⊢
    rcases err_cases (runs (bytesOf t)) with ⟨k1, k2, k3, k4⟩ | ⟨k1, k2, b, k3, k4⟩
    · have hn : (runs (bytesOf s ++ bytesOf t)).2 = none := by rw [ha, k2]; rfl
      rcases err_cases (runs (bytesOf s ++ bytesOf t)) with ⟨q1, q2, q3, q4⟩ | ⟨q1, q2, b, q3, _⟩
      · rw [k3] at hom
        rw [k1, if_pos (by simp), q1, if_pos (by simp), q3, k3, ha, hL]
        have hb : ((((((runs (bytesOf s)).1 ++ shift (s.size : Int) (runs (bytesOf t)).1).map fun p => (⟨p.1, p.2⟩ : S39)).length : Nat) : Int) != wrap64 ((((runs (bytesOf s)).1.map fun p => (⟨p.1, p.2⟩ : S39)).length : Int) + (((runs (bytesOf t)).1.map fun p => (⟨p.1, p.2⟩ : S39)).length : Int))) = false := by
          rw [List.length_map, List.length_map, List.length_map, wrap_id (by omega) (by omega), List.length_append]
          simp [shift]
        rw [hb, carcanetlaw01_RunesJoin.j0, if_neg (by simp)]
        refine join_loop s (by omega) _ _ (by omega) (by omega) ?_ _ _ 0 rfl (Nat.zero_le _) (by omega)
        intro p hp
        obtain ⟨i, hi, rfl⟩ := List.getElem_of_mem hp
        have := Go.Proofs.Ytipifdcamhmjaaa.Rn.run_places (bytesOf t) ((bytesOf t).length + 1) 0 i _ (List.getElem?_eq_getElem hi)
        omega
      · rw [hn] at q3; simp at q3
    · have hn : (runs (bytesOf s ++ bytesOf t)).2 = some (b + (s.size : Int)) := by rw [ha, k3, hL]; rfl
      have hbb : 0 ≤ b ∧ b ≤ 1000 := by
        have : ∀ (f x : Nat), (run f (bytesOf t) x).2 = some b → 0 ≤ b ∧ b < (bytesOf t).length := by
          intro f
          induction f with
          | zero => intro x h; simp [run] at h
          | succ f ih =>
            intro x h
            by_cases hx : x < (bytesOf t).length
            · cases hd : decAt (bytesOf t) x with
              | none =>
                rw [run_bad hx hd] at h
                simp only [Option.some.injEq] at h
                omega
              | some q =>
                obtain ⟨v, n⟩ := q
                rw [run_step hx hd] at h
                exact ih _ h
            · rw [run_end (by omega)] at h; simp at h
        have := this _ _ k3
        omega
      have u1 : err (runs (bytesOf s ++ bytesOf t)) = 2 := by unfold err; rw [hn]
      have u2 : bad (runs (bytesOf s ++ bytesOf t)) = b + (s.size : Int) := by unfold bad; rw [hn]; rfl
      have u3 : okl (runs (bytesOf s ++ bytesOf t)) = [] := by unfold okl; rw [hn]
      rw [k1, if_neg (by decide), if_pos (by simp), u1, if_pos (by simp), u2, k4, wrap_id (by omega) (by omega), if_pos (by omega), u3]
      rfl
  · rw [h1, if_neg (by decide)]
end Go.Proofs.Ytipifdcamhmjaaa.Pure
