/- Widths, kinds, encoding, and how texts of runes are put together and cut: plain mathematics, and the program's functions in its words. -/
import Derived.Test.YtipifdcamhmjaaaRnC
import Derived.Test.YtipifdcamhmjaaaPGx3
import Derived.Laws.BitsLemmas
namespace Go.Proofs.Ytipifdcamhmjaaa.Rn
open Go.RowKit Go.Proofs.YtipifdcamhmjaaaW.PrintWords Go.Proofs.YtipifdcamhmjaaaW.PrintLast Go.Proofs.YtipifdcamhmjaaaW.PrintMore Go.Proofs.Ytipifdcamhmjaaa.PG

theorem nums_bytes (xs : List Int) (h : ∀ x ∈ xs, 0 ≤ x ∧ x < 256) : bytesOf (strOfNums xs) = xs := by
  unfold bytesOf
  rw [strOfNums_data, List.map_map]
  conv => rhs; rw [← List.map_id xs]
  apply List.map_congr_left
  intro x hx
  have := h x hx
  simp only [Function.comp, id, UInt8.toNat_ofNat']
  omega
theorem bytes_nums (s : ByteArray) : strOfNums (bytesOf s) = s := by
  apply bytesOf_inj
  apply nums_bytes
  intro x hx
  unfold bytesOf at hx
  obtain ⟨b, _, rfl⟩ := List.mem_map.1 hx
  have := b.toNat_lt
  omega
theorem enc_byte (r : Int) : ∀ x ∈ enc r, 0 ≤ x ∧ x < 256 := by
  intro x hx
  unfold enc width at hx
  repeat' split at hx
  all_goals simp only [List.mem_cons, List.not_mem_nil, or_false] at hx
  all_goals omega
theorem width_is (k : Nat) (r : Int) : runes_Width.f (k + 1) r = some (width r : Int) := by
  unfold runes_Width.f
  simp only [runes_Width.j0]
  unfold width
  by_cases h1 : r < 0
  · rw [if_pos h1, if_pos trivial, if_pos (by omega)]; rfl
  · rw [if_neg h1]
    by_cases h2 : r > 1114111
    · rw [if_pos h2, if_pos trivial, if_pos (by omega)]; rfl
    · rw [if_neg h2]
      by_cases h3 : r ≥ 55296 ∧ r ≤ 57343
      · rw [if_pos h3.1, if_pos (by simpa using h3.2), if_pos (by omega)]; rfl
      · have e : ¬ (r < 0 ∨ 1114111 < r ∨ 55296 ≤ r ∧ r < 57344) := by omega
        rw [if_neg e]
        have : (if r ≥ 55296 then (if decide (r ≤ 57343) = true then some (0 : Int) else if r < 128 then some 1 else if r < 2048 then some 2 else if r < 65536 then some 3 else some 4) else (if False then some 0 else if r < 128 then some 1 else if r < 2048 then some 2 else if r < 65536 then some 3 else some 4)) = (if r < 128 then some 1 else if r < 2048 then some 2 else if r < 65536 then some 3 else some 4) := by
          split
          · rw [if_neg (by simp; omega)]
          · rw [if_neg (by simp)]
        simp only [Bool.false_eq_true] at *
        rw [this]
        repeat' split
        all_goals rfl
theorem refwidth_is (k : Nat) (r : Int) (h0 : -2147483648 ≤ r) (h1 : r ≤ 2147483647) : carcanetref01_Width.f (k + 1) r = some (width r : Int) := by
  rw [← width_is k r]
  unfold carcanetref01_Width.f runes_Width.f
  rw [wrap_id (by omega) (by omega)]
  simp only [runes_Width.j0, carcanetref01_Width.j0]
  have : decide (r < 57344) = decide (r ≤ 57343) := by rw [decide_eq_decide]; omega
  rw [this]
/-- A rune's kind. -/
def kindN (r : Int) : Int :=
  if width r = 0 then 0 else if r = 32 ∨ r = 9 then 1 else if r = 10 then 2 else if 48 ≤ r ∧ r ≤ 57 then 3
  else if 65 ≤ r ∧ r ≤ 90 ∨ 97 ≤ r ∧ r ≤ 122 ∨ r = 95 ∨ 128 ≤ r then 4 else if 33 ≤ r ∧ r ≤ 126 then 5 else 0
theorem kj2 (k : Nat) (r : Int) (b : Bool) : runes_Kind.j2 (k + 1) r b = some (if b = true then 4 else if 33 ≤ r ∧ r ≤ 126 then 5 else 0) := by
  simp only [runes_Kind.j2]
  repeat' split
  all_goals first | rfl | omega
theorem kj1 (k : Nat) (r : Int) (b : Bool) : runes_Kind.j1 (k + 2) r b = some (if b = true then 3 else if 65 ≤ r ∧ r ≤ 90 ∨ 97 ≤ r ∧ r ≤ 122 ∨ r = 95 ∨ 128 ≤ r then 4 else if 33 ≤ r ∧ r ≤ 126 then 5 else 0) := by
  rw [show k + 2 = (k + 1) + 1 from rfl]
  simp only [runes_Kind.j1, kj2]
  cases b with
  | true => rfl
  | false =>
    by_cases a1 : 65 ≤ r ∧ r ≤ 90 ∨ 97 ≤ r ∧ r ≤ 122 ∨ r = 95 ∨ 128 ≤ r
    · rw [if_pos a1]
      repeat' split
      all_goals first | rfl | omega | (simp at *; done) | (exfalso; simp only [decide_eq_true_eq] at *; omega)
    · rw [if_neg a1]
      repeat' split
      all_goals first | rfl | omega | (simp at *; done) | (exfalso; simp only [decide_eq_true_eq] at *; omega)
theorem kj0 (k : Nat) (r : Int) (b : Bool) : runes_Kind.j0 (k + 3) r b = some (if b = true then 1 else if r = 10 then 2 else if 48 ≤ r ∧ r ≤ 57 then 3 else if 65 ≤ r ∧ r ≤ 90 ∨ 97 ≤ r ∧ r ≤ 122 ∨ r = 95 ∨ 128 ≤ r then 4 else if 33 ≤ r ∧ r ≤ 126 then 5 else 0) := by
  rw [show k + 3 = (k + 2) + 1 from rfl]
  simp only [runes_Kind.j0, kj1]
  cases b with
  | true => rfl
  | false =>
    by_cases a1 : 48 ≤ r ∧ r ≤ 57
    · rw [if_pos a1, if_pos a1.1, decide_eq_true a1.2]
      (repeat' split) <;> first | rfl | simp_all
    · rw [if_neg a1]
      by_cases a2 : r ≥ 48
      · rw [if_pos a2, decide_eq_false (by omega)]
        (repeat' split) <;> first | rfl | simp_all
      · rw [if_neg a2]
        (repeat' split) <;> first | rfl | simp_all
theorem kind_tells (k : Nat) (r : Int) : runes_Kind.f (k + 4) r = some (kindN r) := by
  unfold runes_Kind.f
  rw [width_is]
  simp only [Option.bind_some]
  rw [show k + 4 = (k + 1) + 3 from rfl]
  simp only [kj0]
  unfold kindN
  by_cases a1 : width r = 0
  · rw [if_pos (by omega), if_pos a1]
  · rw [if_neg (by omega), if_neg a1]
    by_cases a2 : r = 32
    · rw [if_pos a2, if_pos trivial, if_pos (show r = 32 ∨ r = 9 from .inl a2)]
    · rw [if_neg a2]
      by_cases a3 : r = 9
      · rw [if_pos (show r = 32 ∨ r = 9 from .inr a3), if_pos (show (r == 9) = true by simpa using a3)]
      · rw [if_neg (show ¬ (r = 32 ∨ r = 9) by omega), if_neg (show ¬ (r == 9) = true by simpa using a3)]
theorem rj2 (k : Nat) (r : Int) (b : Bool) : carcanetref01_Kind.j2 (k + 1) r b = some (if b = true then 4 else if 33 ≤ r ∧ r ≤ 126 then 5 else 0) := by
  simp only [carcanetref01_Kind.j2]
  repeat' split
  all_goals first | rfl | omega
theorem rj1 (k : Nat) (r : Int) (b : Bool) : carcanetref01_Kind.j1 (k + 2) r b = some (if b = true then 3 else if 65 ≤ r ∧ r ≤ 90 ∨ 97 ≤ r ∧ r ≤ 122 ∨ r = 95 ∨ 128 ≤ r then 4 else if 33 ≤ r ∧ r ≤ 126 then 5 else 0) := by
  rw [show k + 2 = (k + 1) + 1 from rfl]
  simp only [carcanetref01_Kind.j1, rj2]
  cases b with
  | true => rfl
  | false =>
    by_cases a1 : 65 ≤ r ∧ r ≤ 90 ∨ 97 ≤ r ∧ r ≤ 122 ∨ r = 95 ∨ 128 ≤ r
    · rw [if_pos a1]
      repeat' split
      all_goals first | rfl | omega | (simp at *; done) | (exfalso; simp only [decide_eq_true_eq] at *; omega)
    · rw [if_neg a1]
      repeat' split
      all_goals first | rfl | omega | (simp at *; done) | (exfalso; simp only [decide_eq_true_eq] at *; omega)
theorem rj0 (k : Nat) (r : Int) (b : Bool) : carcanetref01_Kind.j0 (k + 3) r b = some (if b = true then 1 else if r = 10 then 2 else if 48 ≤ r ∧ r ≤ 57 then 3 else if 65 ≤ r ∧ r ≤ 90 ∨ 97 ≤ r ∧ r ≤ 122 ∨ r = 95 ∨ 128 ≤ r then 4 else if 33 ≤ r ∧ r ≤ 126 then 5 else 0) := by
  rw [show k + 3 = (k + 2) + 1 from rfl]
  simp only [carcanetref01_Kind.j0, rj1]
  cases b with
  | true => rfl
  | false =>
    by_cases a1 : 48 ≤ r ∧ r ≤ 57
    · rw [if_pos a1, if_pos a1.1, decide_eq_true a1.2]
      (repeat' split) <;> first | rfl | simp_all
    · rw [if_neg a1]
      by_cases a2 : r ≥ 48
      · rw [if_pos a2, decide_eq_false (by omega)]
        (repeat' split) <;> first | rfl | simp_all
      · rw [if_neg a2]
        (repeat' split) <;> first | rfl | simp_all
theorem refkind_tells (k : Nat) (r : Int) (h0 : -2147483648 ≤ r) (h1 : r ≤ 2147483647) : carcanetref01_Kind.f (k + 4) r = some (kindN r) := by
  unfold carcanetref01_Kind.f
  rw [refwidth_is _ r h0 h1, wrap_id (by omega) (by omega)]
  simp only [Option.bind_some]
  rw [show k + 4 = (k + 1) + 3 from rfl]
  simp only [rj0]
  unfold kindN
  by_cases a1 : width r = 0
  · rw [if_pos (by omega), if_pos a1]
  · rw [if_neg (by omega), if_neg a1]
    by_cases a2 : r = 32
    · rw [if_pos a2, if_pos trivial, if_pos (show r = 32 ∨ r = 9 from .inl a2)]
    · rw [if_neg a2]
      by_cases a3 : r = 9
      · rw [if_pos (show r = 32 ∨ r = 9 from .inr a3), if_pos (show (r == 9) = true by simpa using a3)]
      · rw [if_neg (show ¬ (r = 32 ∨ r = 9) by omega), if_neg (show ¬ (r == 9) = true by simpa using a3)]
theorem append_rune (k : Nat) (l : List Int) (r : Int) (hw : width r ≠ 0) (hl : l.length < 100000000) : utf8_AppendRune.f (k + 1) l r = some (l ++ enc r) := by
  have hr : 0 ≤ r ∧ r ≤ 1114111 ∧ ¬ (55296 ≤ r ∧ r < 57344) := by
    unfold width at hw
    split at hw
    · exact absurd rfl hw
    · omega
  have em : r % 4294967296 = r := by omega
  have hwd := hw
  unfold width at hwd
  rw [if_neg (by omega)] at hwd
  unfold utf8_AppendRune.f
  rw [em]
  by_cases c1 : r ≤ 127
  · rw [if_pos c1, if_pos (by omega)]
    have : enc r = [r % 256] := by
      have e : width r = 1 := by unfold width; rw [if_neg (by omega), if_pos (by omega)]
      unfold enc; rw [if_pos e]; congr 1; omega
    rw [this]
  · rw [if_neg c1]
    unfold utf8_appendRuneNonASCII.f
    rw [em]
    by_cases c2 : r ≤ 2047
    · rw [if_pos c2]
      simp only [Option.bind_some, List.length_cons, List.length_nil]
      rw [if_pos (by omega)]
      simp only [Option.bind_some]
      have e : width r = 2 := by unfold width; rw [if_neg (by omega), if_neg (by omega), if_pos (by omega)]
      unfold enc; rw [if_neg (by omega), if_pos e]
      rw [u8_or192 _ (by omega) (by omega)]
      congr 4
      omega
    · rw [if_neg c2]
      simp only [utf8_appendRuneNonASCII.j0]
      by_cases c3 : r ≤ 65535
      · have e : width r = 3 := by unfold width; rw [if_neg (by omega), if_neg (by omega), if_neg (by omega), if_pos (by omega)]
        have ee : enc r = [224 + r / 4096, 128 + r / 64 % 64, 128 + r % 64] := by unfold enc; rw [if_neg (by omega), if_neg (by omega), if_pos e]
        have eb : Go.bits .or .u8 224 ((r / 4096) % 256) = 224 + r / 4096 := by rw [u8_or224 _ (by omega) (by omega)]; omega
        rw [ee, eb]
        split
        · rw [if_pos (by simp; omega)]
          simp only [Option.bind_some, List.length_cons, List.length_nil]
          rw [if_pos (by omega)]; rfl
        · rw [if_pos (by omega), if_pos (by simpa using c3)]
          simp only [Option.bind_some, List.length_cons, List.length_nil]
          rw [if_pos (by omega)]; rfl
      · have e : width r = 4 := by unfold width; rw [if_neg (by omega), if_neg (by omega), if_neg (by omega), if_neg (by omega)]
        have ee : enc r = [240 + r / 262144, 128 + r / 4096 % 64, 128 + r / 64 % 64, 128 + r % 64] := by unfold enc; rw [if_neg (by omega), if_neg (by omega), if_neg (by omega), if_pos e]
        have eb : Go.bits .or .u8 240 ((r / 262144) % 256) = 240 + r / 262144 := by rw [u8_or240 _ (by omega) (by omega)]; omega
        rw [ee, eb, if_neg (by omega), if_pos (by omega), if_neg (by simpa using c3), if_pos (by omega), if_pos (by omega)]
        simp only [Option.bind_some, List.length_cons, List.length_nil]
        rw [if_pos (by omega)]; rfl
/-- All runes' bytes. -/
def encAll (l : List Int) : List Int := l.flatMap enc
def may (l : List Int) : Bool := l.all fun r => decide (width r ≠ 0)
theorem encAll_length (l : List Int) : (encAll l).length ≤ 4 * l.length := by
  induction l with
  | nil => simp [encAll]
  | cons r l ih =>
    unfold encAll at *
    rw [List.flatMap_cons, List.length_append, enc_length, List.length_cons]
    have := width_le r
    omega
theorem encAll_byte (l : List Int) : ∀ x ∈ encAll l, 0 ≤ x ∧ x < 256 := by
  intro x hx
  unfold encAll at hx
  obtain ⟨r, _, h⟩ := List.mem_flatMap.1 hx
  exact enc_byte r x h
theorem rd_drop (l : List Int) (i : Nat) (h : i < l.length) : l.drop i = rd l (i : Int) :: l.drop (i + 1) := by
  rw [List.drop_eq_getElem_cons h]
  congr 1
  simp [rd, h]
theorem encode_loop (l : List Int) (hl : l.length ≤ 10000000) : ∀ (d k i : Nat) (b : List Int), l.length - i = d → i ≤ l.length → d + 1 < k → b.length ≤ 4 * i →
    runes_Encode.l0 k b l (l.length : Int) (i : Int) = some (if may (l.drop i) = true then (strOfNums (b ++ encAll (l.drop i)), 0) else (⟨#[]⟩, 2)) := by
  intro d
  induction d with
  | zero =>
    intro k i b hd hi hk hb
    obtain ⟨k, rfl⟩ : ∃ m, k = m + 1 := ⟨k - 1, by omega⟩
    simp only [runes_Encode.l0]
    rw [if_neg (by omega), List.drop_eq_nil_of_le (by omega)]
    simp [may, encAll]
  | succ d ih =>
    intro k i b hd hi hk hb
    obtain ⟨k, rfl⟩ : ∃ m, k = m + 1 := ⟨k - 1, by omega⟩
    simp only [runes_Encode.l0]
    obtain ⟨k, rfl⟩ : ∃ m, k = m + 1 := ⟨k - 1, by omega⟩
    rw [if_pos (by omega), if_pos (by omega), if_pos (by omega), width_is]
    simp only [Option.bind_some]
    rw [rd_drop l i (by omega)]
    by_cases hw : width (rd l (i : Int)) = 0
    · rw [if_pos (by omega), if_neg (by simp [may, hw])]
    · rw [if_neg (by omega), append_rune _ _ _ hw (by omega)]
      have hlen : (b ++ enc (rd l (i : Int))).length ≤ 4 * (i + 1) := by
        rw [List.length_append, enc_length]; have := width_le (rd l (i : Int)); omega
      have hnext := ih (k + 1) (i + 1) (b ++ enc (rd l (i : Int))) (by omega) (by omega) (by omega) hlen
      have hw1 : wrap64 ((i : Int) + 1) = ((i + 1 : Nat) : Int) := by rw [wrap_id (by omega) (by omega)]; omega
      rw [Option.bind_some, hw1, hnext]
      simp only [may, List.all_cons, encAll, List.flatMap_cons, List.append_assoc]
      simp [hw]
theorem encode_tells (l : List Int) (hl : l.length ≤ 10000000) (k : Nat) (hk : l.length + 1 < k) :
    runes_Encode.f k l = some (if may l = true then (strOfNums (encAll l), 0) else (⟨#[]⟩, 2)) := by
  unfold runes_Encode.f
  have := encode_loop l hl l.length k 0 [] (by omega) (by omega) (by omega) (by simp)
  simpa using this
/-- The reference's bytes of a rune. -/
theorem refbytes_is (k : Nat) (r : Int) (h0 : -2147483648 ≤ r) (h1 : r ≤ 2147483647) (hw : width r ≠ 0) : ∃ t : ByteArray, carcanetref01_Bytes.f (k + 1) r = some t ∧ bytesOf t = enc r := by
  have hr : 0 ≤ r ∧ r ≤ 1114111 := by
    unfold width at hw
    split at hw
    · exact absurd rfl hw
    · omega
  have t1 : ∀ n : Int, 0 < n → Int.tdiv r n = r / n := fun n _ => Int.tdiv_eq_ediv_of_nonneg hr.1
  have t2 : ∀ n : Int, Int.tmod r n = r % n := fun n => Int.tmod_eq_emod_of_nonneg hr.1
  have hwd := width_le r
  have hc : ∀ n : Nat, width r = n → n ≠ 0 → (n = 1 → r < 128) ∧ (n = 2 → r < 2048) ∧ (n = 3 → r < 65536) := by
    intro n hn _
    unfold width at hn
    repeat' split at hn
    all_goals omega
  have hcw := hc _ rfl hw
  unfold carcanetref01_Bytes.f
  rw [refwidth_is k r h0 h1, wrap_id (by omega) (by omega)]
  simp only [Option.bind_some]
  have c : width r = 1 ∨ width r = 2 ∨ width r = 3 ∨ width r = 4 := by omega
  rcases c with e | e | e | e
  · rw [if_pos (by omega)]
    refine ⟨_, rfl, ?_⟩
    have ee : enc r = [r % 256] := by unfold enc; rw [if_pos e]; congr 1; omega
    rw [ee]
    exact nums_bytes _ (by intro x hx; simp only [List.mem_cons, List.not_mem_nil, or_false] at hx; omega)
  · rw [if_neg (by omega), if_pos (by omega)]
    refine ⟨_, rfl, ?_⟩
    rw [t1 64 (by omega), t2 64, wrap_id (i := r / 64) (by omega) (by omega), wrap_id (i := 192 + r / 64) (by omega) (by omega), wrap_id (i := 128 + r % 64) (by omega) (by omega)]
    have ee : enc r = [(192 + r / 64) % 256, (128 + r % 64) % 256] := by
      unfold enc; rw [if_neg (by omega), if_pos e]
      rw [show (192 + r / 64) % 256 = 192 + r / 64 by omega, show (128 + r % 64) % 256 = 128 + r % 64 by omega]
    rw [ee]
    exact nums_bytes _ (by intro x hx; simp only [List.mem_cons, List.not_mem_nil, or_false] at hx; omega)
  · rw [if_neg (by omega), if_neg (by omega), if_pos (by omega)]
    refine ⟨_, rfl, ?_⟩
    rw [t1 4096 (by omega), t1 64 (by omega), t2 64, wrap_id (i := r / 4096) (by omega) (by omega), wrap_id (i := r / 64) (by omega) (by omega), Int.tmod_eq_emod_of_nonneg (show 0 ≤ r / 64 by omega), wrap_id (i := 224 + r / 4096) (by omega) (by omega), wrap_id (i := 128 + r / 64 % 64) (by omega) (by omega), wrap_id (i := 128 + r % 64) (by omega) (by omega)]
    have ee : enc r = [(224 + r / 4096) % 256, (128 + r / 64 % 64) % 256, (128 + r % 64) % 256] := by
      unfold enc; rw [if_neg (by omega), if_neg (by omega), if_pos e]
      rw [show (224 + r / 4096) % 256 = 224 + r / 4096 by omega, show (128 + r / 64 % 64) % 256 = 128 + r / 64 % 64 by omega, show (128 + r % 64) % 256 = 128 + r % 64 by omega]
    rw [ee]
    exact nums_bytes _ (by intro x hx; simp only [List.mem_cons, List.not_mem_nil, or_false] at hx; omega)
  · rw [if_neg (by omega), if_neg (by omega), if_neg (by omega), if_pos (by omega)]
    refine ⟨_, rfl, ?_⟩
    rw [t1 262144 (by omega), t1 4096 (by omega), t1 64 (by omega), t2 64, wrap_id (i := r / 262144) (by omega) (by omega), wrap_id (i := r / 4096) (by omega) (by omega), wrap_id (i := r / 64) (by omega) (by omega), Int.tmod_eq_emod_of_nonneg (show 0 ≤ r / 64 by omega), Int.tmod_eq_emod_of_nonneg (show 0 ≤ r / 4096 by omega), wrap_id (i := 240 + r / 262144) (by omega) (by omega), wrap_id (i := 128 + r / 4096 % 64) (by omega) (by omega), wrap_id (i := 128 + r / 64 % 64) (by omega) (by omega), wrap_id (i := 128 + r % 64) (by omega) (by omega)]
    have ee : enc r = [(240 + r / 262144) % 256, (128 + r / 4096 % 64) % 256, (128 + r / 64 % 64) % 256, (128 + r % 64) % 256] := by
      unfold enc; rw [if_neg (by omega), if_neg (by omega), if_neg (by omega), if_pos e]
      rw [show (240 + r / 262144) % 256 = 240 + r / 262144 by omega, show (128 + r / 4096 % 64) % 256 = 128 + r / 4096 % 64 by omega, show (128 + r / 64 % 64) % 256 = 128 + r / 64 % 64 by omega, show (128 + r % 64) % 256 = 128 + r % 64 by omega]
    rw [ee]
    exact nums_bytes _ (by intro x hx; simp only [List.mem_cons, List.not_mem_nil, or_false] at hx; omega)
theorem refencode_loop (l : List Int) (hl : l.length ≤ 10000000) (hb : ∀ x ∈ l, -2147483648 ≤ x ∧ x ≤ 2147483647) : ∀ (d k i : Nat) (b : ByteArray), l.length - i = d → i ≤ l.length → d + 1 < k → b.size ≤ 4 * i →
    carcanetref01_Encode.l0 k l b (i : Int) = some (if may (l.drop i) = true then (strOfNums (bytesOf b ++ encAll (l.drop i)), 0) else (⟨#[]⟩, 2)) := by
  intro d
  induction d with
  | zero =>
    intro k i b hd hi hk hbs
    obtain ⟨k, rfl⟩ : ∃ m, k = m + 1 := ⟨k - 1, by omega⟩
    simp only [carcanetref01_Encode.l0]
    rw [if_neg (by omega), List.drop_eq_nil_of_le (by omega)]
    simp [may, encAll, bytes_nums]
  | succ d ih =>
    intro k i b hd hi hk hbs
    obtain ⟨k, rfl⟩ : ∃ m, k = m + 1 := ⟨k - 1, by omega⟩
    simp only [carcanetref01_Encode.l0]
    obtain ⟨k, rfl⟩ : ∃ m, k = m + 1 := ⟨k - 1, by omega⟩
    have hm : rd l (i : Int) ∈ l := by
      have : rd l (i : Int) = l[i]'(by omega) := by simp [rd, show i < l.length by omega]
      rw [this]; exact List.getElem_mem _
    have hbd := hb _ hm
    rw [if_pos (by omega), if_pos (by omega), refwidth_is _ _ hbd.1 hbd.2]
    simp only [Option.bind_some]
    rw [rd_drop l i (by omega)]
    by_cases hw : width (rd l (i : Int)) = 0
    · rw [if_pos (by omega), if_neg (by simp [may, hw])]
    · obtain ⟨t, ht, hte⟩ := refbytes_is k _ hbd.1 hbd.2 hw
      have htl : t.size ≤ 4 := by
        rw [← bytesOf_length, hte, enc_length]; exact width_le _
      rw [if_neg (by omega), ht]
      simp only [Option.bind_some]
      rw [if_pos (by omega), wrap_id (by omega) (by omega)]
      have := ih (k + 1) (i + 1) (b ++ t) (by omega) (by omega) (by omega) (by rw [ByteArray.size_append]; omega)
      rw [show ((i : Int) + 1) = ((i + 1 : Nat) : Int) by omega, this]
      simp only [may, List.all_cons, encAll, List.flatMap_cons, bytesOf_append, hte, List.append_assoc]
      simp [hw]
theorem refencode_tells (l : List Int) (hl : l.length ≤ 10000000) (hb : ∀ x ∈ l, -2147483648 ≤ x ∧ x ≤ 2147483647) (k : Nat) (hk : l.length + 1 < k) :
    carcanetref01_Encode.f k l = some (if may l = true then (strOfNums (encAll l), 0) else (⟨#[]⟩, 2)) := by
  unfold carcanetref01_Encode.f
  have := refencode_loop l hl hb l.length k 0 ⟨#[]⟩ (by omega) (by omega) (by omega) (by simp [ByteArray.size])
  have e : bytesOf (⟨#[]⟩ : ByteArray) = [] := rfl
  rw [e] at this
  simpa using this
theorem shown_at (k : Nat) (hk : 100 ≤ k) : carcanetlaw01_shown.f k = some true := by
  refine at_rounds (k := 100) carcanetlaw01_shown.mono hk ?_
  unfold carcanetlaw01_shown.f
  rw [decode_tells _ (by decide) 100 (by decide), decode_tells _ (by decide) 100 (by decide), encode_tells _ (by decide) 100 (by decide)]
  have e1 : runs (bytesOf (⟨#[97, 195, 169]⟩ : ByteArray)) = ([(0, 97), (1, 233)], none) := by decide
  have e2 : runs (bytesOf (⟨#[97, 195]⟩ : ByteArray)) = ([(0, 97)], some 1) := by decide
  have e3 : may [97, 233] = true := by decide
  have e4 : (strOfNums (encAll [97, 233])).toList = [97, 195, 169] := by
    rw [ByteArray.toList_eq, strOfNums_data]; decide
  rw [e1, e2, if_pos e3]
  simp only [Option.bind_some, fin, List.map_cons, List.map_nil, List.nil_append, List.length_cons, List.length_nil, e4]
  rw [width_is 99]
  have k1 : runes_Kind.f 100 233 = some 4 := by decide
  have k2 : runes_Kind.f 100 48 = some 3 := by decide
  rw [k1, k2]
  decide
end Go.Proofs.Ytipifdcamhmjaaa.Rn
