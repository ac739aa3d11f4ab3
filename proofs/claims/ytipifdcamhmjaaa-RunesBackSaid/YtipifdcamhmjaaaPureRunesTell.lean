/- RunesTell: a text's runes, and where it is none, are what the document's reference says, for every text (its first 3000 bytes). No condition but the form's own reach. -/
import Derived.Test.YtipifdcamhmjaaaRnD
import Derived.Test.YtipifdcamhmjaaaRnE
import Derived.Test.YtipifdcamhmjaaaPGx5
namespace Go.Proofs.Ytipifdcamhmjaaa.Pure
open Go.RowKit Go.Proofs.Ytipifdcamhmjaaa.PG Go.Proofs.YtipifdcamhmjaaaW.PrintWords Go.Proofs.YtipifdcamhmjaaaW.PrintLast Go.Proofs.YtipifdcamhmjaaaW.PrintMore Go.Proofs.Ytipifdcamhmjaaa.Rn

theorem cut_size (a : ByteArray) (n : Int) (h0 : 0 ≤ n) : 0 ≤ mn (a.size : Int) n ∧ mn (a.size : Int) n ≤ a.size ∧ ((a.extract 0 (mn (a.size : Int) n).toNat).size : Int) ≤ n := by
  have h : 0 ≤ mn (a.size : Int) n ∧ mn (a.size : Int) n ≤ a.size ∧ mn (a.size : Int) n ≤ n := by
    unfold mn; split <;> omega
  refine ⟨h.1, h.2.1, ?_⟩
  rw [ByteArray.size_extract]; omega
theorem fin_eq {α : Type} (mk : Int → Int → α) (r : List (Int × Int) × Option Int) : fin mk [] r = ((okl r).map fun p => mk p.1 p.2, bad r, err r) := by
  unfold fin okl bad err
  cases h : r.2 with
  | none => simp
  | some b => simp
theorem same_loop (rs : List (Int × Int)) (hl : rs.length ≤ 1000000) : ∀ (d k i : Nat), rs.length - i = d → i ≤ rs.length → d < k →
    carcanetlaw01_same.l0 k (rs.map fun p => (⟨p.1, p.2⟩ : S39)) (rs.map fun p => (⟨p.1, p.2⟩ : S44)) (i : Int) = some true := by
  intro d
  induction d with
  | zero =>
    intro k i hd hi hk
    obtain ⟨k, rfl⟩ : ∃ m, k = m + 1 := ⟨k - 1, by omega⟩
    simp only [carcanetlaw01_same.l0]
    rw [if_neg (by rw [List.length_map]; omega)]
  | succ d ih =>
    intro k i hd hi hk
    obtain ⟨k, rfl⟩ : ∃ m, k = m + 1 := ⟨k - 1, by omega⟩
    simp only [carcanetlaw01_same.l0]
    have hlt : i < rs.length := by omega
    have e1 : rd_T39 (rs.map fun p => (⟨p.1, p.2⟩ : S39)) (i : Int) = ⟨rs[i].1, rs[i].2⟩ := by simp [rd_T39, hlt]
    have e2 : rd_T44 (rs.map fun p => (⟨p.1, p.2⟩ : S44)) (i : Int) = ⟨rs[i].1, rs[i].2⟩ := by simp [rd_T44, hlt]
    rw [e1, e2, if_pos (by rw [List.length_map]; omega), if_pos (by omega), if_pos (by rw [List.length_map]; omega), if_pos rfl, if_pos rfl, wrap_id (by omega) (by omega)]
    have := ih k (i + 1) (by omega) (by omega) (by omega)
    rw [← this]; congr 1
theorem same_tells (rs : List (Int × Int)) (hl : rs.length ≤ 1000000) (k : Nat) (hk : rs.length < k) :
    carcanetlaw01_same.f k (rs.map fun p => (⟨p.1, p.2⟩ : S39)) (rs.map fun p => (⟨p.1, p.2⟩ : S44)) = some true := by
  unfold carcanetlaw01_same.f
  rw [if_pos (by rw [List.length_map, List.length_map])]
  exact same_loop rs hl rs.length k 0 (by omega) (by omega) hk
theorem okl_length (l : List Int) : (okl (runs l)).length ≤ l.length := by
  rcases err_cases (runs l) with ⟨_, _, h, _⟩ | ⟨_, h, _⟩
  · rw [h]; have := run_count l (l.length + 1) 0; unfold runs; omega
  · rw [h]; simp
theorem RunesTell : carcanetlaw01_RunesTell.Pure := by
  intro a0 h0
  refine ⟨10000, ?_⟩
  unfold carcanetlaw01_RunesTell.f
  obtain ⟨c1, c2, c3⟩ := cut_size a0 3000 (by omega)
  rw [shown_at _ (by omega)]
  simp only [Option.bind_some]
  rw [if_pos c1, if_pos c2]
  generalize a0.extract 0 (mn (a0.size : Int) 3000).toNat = s at c3
  rw [decode_tells s (by omega) _ (by omega), refdecode_tells s (by omega) _ (by omega), fin_eq, fin_eq]
  simp only [Option.bind_some]
  have hl := okl_length (bytesOf s)
  rw [bytesOf_length] at hl
  rw [if_pos (by simp), same_tells _ (by omega) _ (by omega)]
  simp
end Go.Proofs.Ytipifdcamhmjaaa.Pure
