/- What the program's functions on runes come to, in the words of plain mathematics. -/
import Derived.Test.YtipifdcamhmjaaaRn
import Derived.Test.YtipifdcamhmjaaaPGx2
import Derived.Test.YtipifdcamhmjaaaPGx2
namespace Go.Proofs.Ytipifdcamhmjaaa.Rn
open Go.RowKit Go.Proofs.YtipifdcamhmjaaaW.PrintWords Go.Proofs.YtipifdcamhmjaaaW.PrintLast Go.Proofs.YtipifdcamhmjaaaW.PrintMore Go.Proofs.Ytipifdcamhmjaaa.PG

theorem bytesOf_get (s : ByteArray) (i : Nat) (h : i < s.size) : (bytesOf s)[i]'(by rw [bytesOf_length]; exact h) = ((s.get! i).toNat : Int) := by
  simp only [bytesOf, List.getElem_map, Array.getElem_toList]
  have h' : i < s.data.size := h
  have e : s.get! i = s.data[i]! := rfl
  rw [e, getElem!_pos s.data i h']
theorem gb_bytes (s : ByteArray) (i : Nat) (h : i < s.size) : gb (bytesOf s) i = ((s.get! i).toNat : Int) := by
  rw [gb_lt (by rw [bytesOf_length]; exact h)]
  exact bytesOf_get s i h
theorem gb_past (s : ByteArray) (i : Nat) (h : ¬ i < s.size) : gb (bytesOf s) i = -1 := gb_ge (by rw [bytesOf_length]; omega)
theorem gb_bt (s : ByteArray) (i : Nat) (h : i < s.size) : gb (bytesOf s) i = bt s i := by
  rw [gb_lt (by rw [bytesOf_length]; exact h), ← rd_bytesOf]
  simp [rd, bytesOf_length, h]
set_option maxHeartbeats 4000000 in
theorem decode_num (n x a0 a1 a2 a3 : Nat) (g0 g1 g2 g3 : Int) (c1 c2 c3 : Bool) (h0 : g0 = (a0 : Int)) (l0 : a0 < 256) (l1 : a1 < 256) (l2 : a2 < 256) (l3 : a3 < 256)
    (h1 : if x + 1 < n then g1 = (a1 : Int) else g1 = -1) (h2 : if x + 2 < n then g2 = (a2 : Int) else g2 = -1) (h3 : if x + 3 < n then g3 = (a3 : Int) else g3 = -1)
    (e1 : c1 = (decide (x + 1 < n) && a1 / 64 == 2)) (e2 : c2 = (decide (x + 2 < n) && a2 / 64 == 2)) (e3 : c3 = (decide (x + 3 < n) && a3 / 64 == 2)) :
    let r : Nat × Nat := (if a0 < 0x80 then (a0, 1)
      else if a0 / 32 == 6 && c1 then (if (a0 % 32) * 64 + a1 % 64 ≥ 0x80 then ((a0 % 32) * 64 + a1 % 64, 2) else (Utf8.runeError, 1))
      else if a0 / 16 == 14 && c1 && c2 then (if (a0 % 16) * 4096 + (a1 % 64) * 64 + a2 % 64 ≥ 0x800 && Utf8.valid ((a0 % 16) * 4096 + (a1 % 64) * 64 + a2 % 64 : Nat) then ((a0 % 16) * 4096 + (a1 % 64) * 64 + a2 % 64, 3) else (Utf8.runeError, 1))
      else if a0 / 8 == 30 && c1 && c2 && c3 then (if (a0 % 8) * 262144 + (a1 % 64) * 4096 + (a2 % 64) * 64 + a3 % 64 ≥ 0x10000 && Utf8.valid ((a0 % 8) * 262144 + (a1 % 64) * 4096 + (a2 % 64) * 64 + a3 % 64 : Nat) then ((a0 % 8) * 262144 + (a1 % 64) * 4096 + (a2 % 64) * 64 + a3 % 64, 4) else (Utf8.runeError, 1))
      else (Utf8.runeError, 1))
    (∃ v k, dec4 g0 g1 g2 g3 = some (v, k) ∧ (r.1 : Int) = v ∧ r.2 = k) ∨ (dec4 g0 g1 g2 g3 = none ∧ r = (65533, 1)) := by
  intro r
  have key1 : (c1 = true ↔ Cn g1) ∧ (c1 = true → g1 = (a1 : Int)) := by
    subst e1; unfold Cn
    simp only [Bool.and_eq_true, decide_eq_true_eq, beq_iff_eq]
    split at h1 <;> constructor <;> (try constructor) <;> intros <;> omega
  have key2 : (c2 = true ↔ Cn g2) ∧ (c2 = true → g2 = (a2 : Int)) := by
    subst e2; unfold Cn
    simp only [Bool.and_eq_true, decide_eq_true_eq, beq_iff_eq]
    split at h2 <;> constructor <;> (try constructor) <;> intros <;> omega
  have key3 : (c3 = true ↔ Cn g3) ∧ (c3 = true → g3 = (a3 : Int)) := by
    subst e3; unfold Cn
    simp only [Bool.and_eq_true, decide_eq_true_eq, beq_iff_eq]
    split at h3 <;> constructor <;> (try constructor) <;> intros <;> omega
  clear e1 e2 e3 h1 h2 h3
  have hr : r = r := rfl
  by_cases q0 : a0 < 128
  · left
    refine ⟨g0, 1, ?_, ?_, ?_⟩
    · unfold dec4; rw [if_pos (by omega)]
    · simp only [r]; rw [if_pos q0]; exact h0.symm
    · simp only [r]; rw [if_pos q0]
  · by_cases q1 : a0 / 32 = 6 ∧ c1 = true
    · have t1 : (a0 / 32 == 6 && c1) = true := by simp [q1.1, q1.2]
      have g := key1.2 q1.2
      have cn := key1.1.1 q1.2
      have cn' := cn
      unfold Cn at cn'
      by_cases q : (a0 % 32) * 64 + a1 % 64 ≥ 0x80
      · left
        refine ⟨v2 g0 g1, 2, ?_, ?_, ?_⟩
        · unfold dec4; rw [if_neg (by omega), if_pos ⟨by omega, by omega, cn, by unfold v2; omega⟩]
        · simp only [r]; rw [if_neg q0, if_pos t1, if_pos q]; unfold v2; simp only []; omega
        · simp only [r]; rw [if_neg q0, if_pos t1, if_pos q]
      · right
        constructor
        · unfold dec4 v2; rw [if_neg (by omega), if_neg (by omega), if_neg (by omega), if_neg (by omega)]
        · simp only [r]; rw [if_neg q0, if_pos t1, if_neg q]; rfl
    · have t1 : ¬ (a0 / 32 == 6 && c1) = true := by simpa using q1
      have n1 : ¬ (192 ≤ g0 ∧ g0 < 224 ∧ Cn g1) := fun h => q1 ⟨by omega, key1.1.2 h.2.2⟩
      by_cases q2 : a0 / 16 = 14 ∧ c1 = true ∧ c2 = true
      · have t2 : (a0 / 16 == 14 && c1 && c2) = true := by simp [q2.1, q2.2.1, q2.2.2]
        have g := key1.2 q2.2.1
        have g' := key2.2 q2.2.2
        have cn := key1.1.1 q2.2.1
        have cn2 := key2.1.1 q2.2.2
        have cn' := cn
        have cn2' := cn2
        unfold Cn at cn' cn2'
        by_cases q : 2048 ≤ v3 g0 g1 g2 ∧ (v3 g0 g1 g2 < 55296 ∨ 57344 ≤ v3 g0 g1 g2)
        · left
          have tq : ((decide ((a0 % 16) * 4096 + (a1 % 64) * 64 + a2 % 64 ≥ 0x800)) && Utf8.valid ((a0 % 16) * 4096 + (a1 % 64) * 64 + a2 % 64 : Nat)) = true := by
            unfold Utf8.valid v3 at *
            simp only [Bool.and_eq_true, Bool.or_eq_true, decide_eq_true_eq]
            omega
          refine ⟨v3 g0 g1 g2, 3, ?_, ?_, ?_⟩
          · unfold dec4; rw [if_neg (by omega), if_neg (by omega), if_pos ⟨by omega, by omega, cn, cn2, q⟩]
          · simp only [r]; rw [if_neg q0, if_neg t1, if_pos t2, if_pos tq]; unfold v3; simp only []; omega
          · simp only [r]; rw [if_neg q0, if_neg t1, if_pos t2, if_pos tq]
        · right
          have tq : ¬ ((decide ((a0 % 16) * 4096 + (a1 % 64) * 64 + a2 % 64 ≥ 0x800)) && Utf8.valid ((a0 % 16) * 4096 + (a1 % 64) * 64 + a2 % 64 : Nat)) = true := by
            unfold Utf8.valid v3 at *
            simp only [Bool.and_eq_true, Bool.or_eq_true, decide_eq_true_eq]
            omega
          constructor
          · unfold dec4; rw [if_neg (by omega), if_neg (by omega), if_neg (fun h => q h.2.2.2.2), if_neg (by omega)]
          · simp only [r]; rw [if_neg q0, if_neg t1, if_pos t2, if_neg tq]; rfl
      · have t2 : ¬ (a0 / 16 == 14 && c1 && c2) = true := by
          simp only [Bool.and_eq_true, beq_iff_eq]; exact fun h => q2 ⟨h.1.1, h.1.2, h.2⟩
        have n2 : ¬ (224 ≤ g0 ∧ g0 < 240 ∧ Cn g1 ∧ Cn g2) := fun h => q2 ⟨by omega, key1.1.2 h.2.2.1, key2.1.2 h.2.2.2⟩
        by_cases q3 : a0 / 8 = 30 ∧ c1 = true ∧ c2 = true ∧ c3 = true
        · have t3 : (a0 / 8 == 30 && c1 && c2 && c3) = true := by simp [q3.1, q3.2.1, q3.2.2.1, q3.2.2.2]
          have g := key1.2 q3.2.1
          have g' := key2.2 q3.2.2.1
          have g'' := key3.2 q3.2.2.2
          have cn := key1.1.1 q3.2.1
          have cn2 := key2.1.1 q3.2.2.1
          have cn3 := key3.1.1 q3.2.2.2
          have cn' := cn
          have cn2' := cn2
          have cn3' := cn3
          unfold Cn at cn' cn2' cn3'
          by_cases q : 65536 ≤ v4 g0 g1 g2 g3 ∧ v4 g0 g1 g2 g3 ≤ 1114111
          · left
            have tq : ((decide ((a0 % 8) * 262144 + (a1 % 64) * 4096 + (a2 % 64) * 64 + a3 % 64 ≥ 0x10000)) && Utf8.valid ((a0 % 8) * 262144 + (a1 % 64) * 4096 + (a2 % 64) * 64 + a3 % 64 : Nat)) = true := by
              unfold Utf8.valid v4 at *
              simp only [Bool.and_eq_true, Bool.or_eq_true, decide_eq_true_eq]
              omega
            refine ⟨v4 g0 g1 g2 g3, 4, ?_, ?_, ?_⟩
            · unfold dec4; rw [if_neg (by omega), if_neg (by omega), if_neg (by omega), if_pos ⟨by omega, by omega, cn, cn2, cn3, q⟩]
            · simp only [r]; rw [if_neg q0, if_neg t1, if_neg t2, if_pos t3, if_pos tq]; unfold v4; simp only []; omega
            · simp only [r]; rw [if_neg q0, if_neg t1, if_neg t2, if_pos t3, if_pos tq]
          · right
            have tq : ¬ ((decide ((a0 % 8) * 262144 + (a1 % 64) * 4096 + (a2 % 64) * 64 + a3 % 64 ≥ 0x10000)) && Utf8.valid ((a0 % 8) * 262144 + (a1 % 64) * 4096 + (a2 % 64) * 64 + a3 % 64 : Nat)) = true := by
              unfold Utf8.valid v4 at *
              simp only [Bool.and_eq_true, Bool.or_eq_true, decide_eq_true_eq]
              omega
            constructor
            · unfold dec4; rw [if_neg (by omega), if_neg (by omega), if_neg (by omega), if_neg (fun h => q h.2.2.2.2.2)]
            · simp only [r]; rw [if_neg q0, if_neg t1, if_neg t2, if_pos t3, if_neg tq]; rfl
        · have t3 : ¬ (a0 / 8 == 30 && c1 && c2 && c3) = true := by
            simp only [Bool.and_eq_true, beq_iff_eq]; exact fun h => q3 ⟨h.1.1.1, h.1.1.2, h.1.2, h.2⟩
          right
          constructor
          · unfold dec4
            rw [if_neg (by omega), if_neg (fun h => n1 ⟨h.1, h.2.1, h.2.2.1⟩), if_neg (fun h => n2 ⟨h.1, h.2.1, h.2.2.1, h.2.2.2.1⟩), if_neg (fun h => q3 ⟨by omega, key1.1.2 h.2.2.1, key2.1.2 h.2.2.2.1, key3.1.2 h.2.2.2.2.1⟩)]
          · simp only [r]; rw [if_neg q0, if_neg t1, if_neg t2, if_neg t3]; rfl
/-- The model's decoding is ours. -/
theorem decode_is (s : ByteArray) (x : Nat) (hx : x < s.size) :
    (∃ v n, decAt (bytesOf s) x = some (v, n) ∧ runeAt s x = v ∧ runeEnd s x = x + n) ∨ (decAt (bytesOf s) x = none ∧ runeAt s x = 65533 ∧ runeEnd s x = x + 1) := by
  have hb : ∀ k, (s.get! (x + k)).toNat < 256 := fun k => (s.get! (x + k)).toNat_lt
  have hg : ∀ k, if x + k < s.size then gb (bytesOf s) (x + k) = ((s.get! (x + k)).toNat : Int) else gb (bytesOf s) (x + k) = -1 := fun k => by
    split
    · exact gb_bytes s _ ‹_›
    · exact gb_past s _ ‹_›
  have h0 := hg 0
  rw [if_pos (by omega)] at h0
  have k := decode_num s.size x (s.get! (x + 0)).toNat (s.get! (x + 1)).toNat (s.get! (x + 2)).toNat (s.get! (x + 3)).toNat _ _ _ _ _ _ _ h0 (hb 0) (hb 1) (hb 2) (hb 3) (hg 1) (hg 2) (hg 3) rfl rfl rfl
  have e : Utf8.decode s x = _ := rfl
  unfold Utf8.decode at e
  rcases k with ⟨v, n, hd, h1, h2⟩ | ⟨hd, h1⟩
  · left
    refine ⟨v, n, hd, ?_, ?_⟩
    · show ((Utf8.decode s x).1 : Int) = v
      exact h1
    · show ((x + (Utf8.decode s x).2 : Nat) : Int) = x + n
      have : (Utf8.decode s x).2 = n := h2
      rw [this]; omega
  · right
    have h1' : Utf8.decode s x = (65533, 1) := h1
    refine ⟨hd, ?_, ?_⟩
    · show ((Utf8.decode s x).1 : Int) = 65533
      rw [h1']; rfl
    · show ((x + (Utf8.decode s x).2 : Nat) : Int) = x + 1
      rw [h1']; omega
end Go.Proofs.Ytipifdcamhmjaaa.Rn
