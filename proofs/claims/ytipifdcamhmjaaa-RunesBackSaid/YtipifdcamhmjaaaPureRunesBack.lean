/- RunesBack: what was decoded, encoded again, is the text, and each rune stands behind the one ahead of it, for every text (its first 3000 bytes). No condition but the form's own reach. -/
import Derived.Test.YtipifdcamhmjaaaRnD
import Derived.Test.YtipifdcamhmjaaaRnE
import Derived.Test.YtipifdcamhmjaaaPureRunesTell
import Derived.Test.YtipifdcamhmjaaaPGx7
namespace Go.Proofs.Ytipifdcamhmjaaa.Pure
open Go.RowKit Go.Proofs.Ytipifdcamhmjaaa.PG Go.Proofs.YtipifdcamhmjaaaW.PrintWords Go.Proofs.YtipifdcamhmjaaaW.PrintLast Go.Proofs.YtipifdcamhmjaaaW.PrintMore Go.Proofs.Ytipifdcamhmjaaa.Rn

theorem back_loop (s : ByteArray) (hs : s.size ≤ 100000) (rs : List (Int × Int)) (hrs : rs.length ≤ 100000) : ∀ (f k x i : Nat) (acc : List Int), x ≤ s.size → s.size - x < f → (run f (bytesOf s) x).2 = none → i ≤ rs.length → rs.drop i = (run f (bytesOf s) x).1 →
    encAll acc = (bytesOf s).take x → may acc = true → acc.length ≤ x → 2 * s.size + 2 - x < k →
    carcanetlaw01_RunesBack.l0 k s true (rs.map fun p => (⟨p.1, p.2⟩ : S39)) acc (x : Int) (i : Int) = some true := by
  intro f
  induction f with
  | zero => intro k x i acc h1 h2; omega
  | succ f ih =>
    intro k x i acc hx hf hr hi hd he hm ha hk
    have hl := bytesOf_length s
    obtain ⟨k, rfl⟩ : ∃ m, k = m + 1 := ⟨k - 1, by omega⟩
    simp only [carcanetlaw01_RunesBack.l0]
    by_cases hxl : x < s.size
    · cases hdc : decAt (bytesOf s) x with
      | none => rw [run_bad (by omega) hdc] at hr; simp at hr
      | some q =>
        obtain ⟨v, n⟩ := q
        have hp := dec4_pos hdc
        have hin := decAt_in hdc
        have hwd : width v = n := dec4_width hdc
        rw [run_step (by omega) hdc] at hr hd
        have hil : i < rs.length := by
          rcases Nat.lt_or_ge i rs.length with h | h
          · exact h
          · rw [List.drop_eq_nil_of_le h] at hd; simp at hd
        rw [List.drop_eq_getElem_cons hil] at hd
        simp only [List.cons.injEq] at hd
        have e1 : rd_T39 (rs.map fun p => (⟨p.1, p.2⟩ : S39)) (i : Int) = ⟨(x : Int), v⟩ := by simp [rd_T39, hil, hd.1]
        obtain ⟨k, rfl⟩ : ∃ m, k = m + 1 := ⟨k - 1, by omega⟩
        rw [e1, if_pos (by rw [List.length_map]; omega), if_pos (by omega), if_pos rfl, width_is]
        simp only [Option.bind_some]
        rw [if_neg (by omega), if_pos (by omega), hwd, wrap_id (by omega) (by omega), wrap_id (by omega) (by omega)]
        have := ih (k + 1) (x + n) (i + 1) (acc ++ [v]) (by omega) (by omega) hr (by omega) hd.2 ?_ ?_ ?_ (by omega)
        · rw [← this]; congr 1
        · unfold encAll at he ⊢
          rw [List.flatMap_append, he, List.flatMap_cons, List.flatMap_nil, List.append_nil, decAt_enc hdc, List.take_add]
        · unfold may at hm ⊢
          rw [List.all_append, hm]
          simp; omega
        · rw [List.length_append, List.length_singleton]; omega
    · have hxe : x = s.size := by omega
      rw [run_end (by omega)] at hd
      have hie : i = rs.length := by
        have := congrArg List.length hd
        simp at this; omega
      rw [if_neg (by rw [List.length_map]; omega), encode_tells acc (by omega) _ (by omega), hm]
      simp only [Option.bind_some, if_true]
      rw [if_pos (by omega), he, hxe, List.take_of_length_le (by omega), bytes_nums, if_pos (by simp)]
      rfl
theorem RunesBack : carcanetlaw01_RunesBack.Pure := by
  intro a0 h0
  obtain ⟨K, hK⟩ : ∃ K : Nat, 10000 ≤ K := ⟨10000, Nat.le_refl _⟩
  refine ⟨K, ?_⟩
  unfold carcanetlaw01_RunesBack.f
  obtain ⟨c1, c2, c3⟩ := cut_size a0 3000 (by omega)
  rw [shown_at _ (by omega)]
  simp only [Option.bind_some]
  rw [if_pos c1, if_pos c2]
  generalize a0.extract 0 (mn (a0.size : Int) 3000).toNat = s at c3
  rw [decode_tells s (by omega) _ (by omega), fin_eq]
  simp only [Option.bind_some]
  have hl := okl_length (bytesOf s)
  rw [bytesOf_length] at hl
  rcases err_cases (runs (bytesOf s)) with ⟨h1, h2, h3, h4⟩ | ⟨h1, h2, _⟩
  · rw [h1, if_pos (by simp)]
    refine back_loop s (by omega) _ (by omega) ((bytesOf s).length + 1) _ 0 0 [] (Nat.zero_le _) (by rw [bytesOf_length]; omega) h2 (Nat.zero_le _) ?_ rfl rfl (Nat.zero_le _) (by omega)
    rw [h3]; rfl
  · rw [h1, if_neg (by decide), if_pos (by simp), if_pos (by simp), h2]
    rfl
end Go.Proofs.Ytipifdcamhmjaaa.Pure
