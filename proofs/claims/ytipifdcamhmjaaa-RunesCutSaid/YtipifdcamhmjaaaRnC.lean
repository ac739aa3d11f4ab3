/- What the program's and the references' functions on runes answer, in the words of plain mathematics. -/
import Derived.Test.YtipifdcamhmjaaaRnB
import Derived.Test.YtipifdcamhmjaaaPGx5
import Derived.Test.YtipifdcamhmjaaaPGx2
import Derived.Test.YtipifdcamhmjaaaPGx3
import Derived.Test.YtipifdcamhmjaaaPGx6
import Derived.Test.YtipifdcamhmjaaaPGx2
import Derived.Test.YtipifdcamhmjaaaPGx5
namespace Go.Proofs.Ytipifdcamhmjaaa.Rn
open Go.RowKit Go.Proofs.YtipifdcamhmjaaaW.PrintWords Go.Proofs.YtipifdcamhmjaaaW.PrintLast Go.Proofs.YtipifdcamhmjaaaW.PrintMore Go.Proofs.Ytipifdcamhmjaaa.PG

theorem bytesOf_extract (s : ByteArray) (a b : Nat) : bytesOf (s.extract a b) = ((bytesOf s).take b).drop a := by
  unfold bytesOf
  rw [ByteArray.data_extract, Array.toList_extract, List.extract_eq_take_drop, List.map_take, List.map_drop, List.drop_take]
theorem bytesOf_append (s t : ByteArray) : bytesOf (s ++ t) = bytesOf s ++ bytesOf t := by
  unfold bytesOf
  rw [ByteArray.toList_data_append, List.map_append]
theorem bytesOf_inj {s t : ByteArray} (h : bytesOf s = bytesOf t) : s = t := by
  unfold bytesOf at h
  have hi : ∀ (a b : List UInt8), a.map (fun b : UInt8 => (b.toNat : Int)) = b.map (fun b : UInt8 => (b.toNat : Int)) → a = b := by
    intro a
    induction a with
    | nil => intro b h; cases b with
      | nil => rfl
      | cons y b => simp at h
    | cons x a ih => intro b h; cases b with
      | nil => simp at h
      | cons y b =>
        simp only [List.map_cons, List.cons.injEq] at h
        obtain ⟨h1, h2⟩ := h
        rw [ih b h2, UInt8.toNat_inj.1 (Int.ofNat.inj h1)]
  have := hi _ _ h
  cases s; cases t
  simp only [ByteArray.mk.injEq]
  exact Array.toList_inj.1 this
theorem bytesOf_byte (s : ByteArray) (i : Nat) : -1 ≤ gb (bytesOf s) i ∧ gb (bytesOf s) i ≤ 255 := by
  by_cases h : i < s.size
  · rw [gb_bytes s i h]
    have := (s.get! i).toNat_lt
    omega
  · rw [gb_past s i h]; omega
theorem prefix_is (s : ByteArray) (x : Nat) (hx : x < s.size) :
    strings_HasPrefix.f (s.extract x s.size) (⟨#[239, 191, 189]⟩ : ByteArray) = some (decide (gb (bytesOf s) x = 239 ∧ gb (bytesOf s) (x + 1) = 191 ∧ gb (bytesOf s) (x + 2) = 189)) := by
  have hsz : (s.extract x s.size).size = s.size - x := by rw [ByteArray.size_extract]; omega
  have h3 : (⟨#[239, 191, 189]⟩ : ByteArray).size = 3 := rfl
  unfold strings_HasPrefix.f stringslite_HasPrefix.f
  rw [h3, hsz]
  by_cases h : 3 ≤ s.size - x
  · rw [if_pos (by omega), if_pos (by omega), if_pos (by omega)]
    simp only [Option.bind_some, Option.some.injEq]
    have e : ((s.extract x s.size).extract 0 (((3 : Nat) : Int) : Int).toNat).toList = (s.data.toList.drop x).take 3 := by
      rw [ByteArray.toList_eq, ByteArray.data_extract, ByteArray.data_extract, Array.toList_extract, Array.toList_extract, List.extract_eq_take_drop, List.extract_eq_take_drop]
      simp only [List.drop_zero, Nat.sub_zero]
      have hl : (List.drop x s.data.toList).length = s.size - x := by rw [List.length_drop, data_length]
      rw [List.take_take]
      congr 1
      simp; omega
    rw [e]
    have g : ∀ i, gb (bytesOf s) (x + i) = gb ((s.data.toList.drop x).map fun b : UInt8 => (b.toNat : Int)) i := fun i => by
      rw [← gb_drop]; unfold bytesOf; rw [List.map_drop]
    have g0 := g 0
    have g1 := g 1
    have g2 := g 2
    rw [Nat.add_zero] at g0
    rw [g0, g1, g2]
    have hl : (List.drop x s.data.toList).length = s.size - x := by rw [List.length_drop, data_length]
    generalize List.drop x s.data.toList = l at *
    match l, hl with
    | [], hl => simp at hl; omega
    | [a], hl => simp at hl; omega
    | [a, b], hl => simp at hl; omega
    | a :: b :: c :: r, hl =>
      simp only [gb, List.map_cons, List.getD_cons_zero, List.getD_cons_succ, List.take_succ_cons, List.take_zero]
      have hu : ∀ (a : UInt8) (n : Nat) (_ : n < 256), a = UInt8.ofNat n ↔ (a.toNat : Int) = n := fun a n hn => by
        constructor
        · intro h; rw [h]; simp; omega
        · intro h; apply UInt8.toNat_inj.1; simp; omega
      have t : (ByteArray.toList ⟨#[239, 191, 189]⟩) = [239, 191, 189] := by rw [ByteArray.toList_eq]
      rw [t, Bool.eq_iff_iff]
      simp only [beq_iff_eq, List.cons.injEq, and_true, decide_eq_true_eq]
      have q1 := hu a 239 (by omega)
      have q2 := hu b 191 (by omega)
      have q3 := hu c 189 (by omega)
      constructor
      · rintro ⟨h1, h2, h3⟩; exact ⟨q1.1 h1, q2.1 h2, q3.1 h3⟩
      · rintro ⟨h1, h2, h3⟩; exact ⟨q1.2 h1, q2.2 h2, q3.2 h3⟩
  · rw [if_neg (by omega)]
    simp only [Option.bind_some, Option.some.injEq]
    rw [eq_comm, decide_eq_false_iff_not]
    intro hh
    rw [gb_past s (x + 2) (by omega)] at hh
    omega
/-- The runes of a text as the program's and the reference's lists. -/
def fin {α : Type} (mk : Int → Int → α) (out : List α) (r : List (Int × Int) × Option Int) : List α × Int × Int := match r.2 with
  | none => (out ++ r.1.map (fun p => mk p.1 p.2), 0, 0)
  | some b => ([], b, 2)
theorem fin_step {α : Type} (mk : Int → Int → α) (out : List α) (a v : Int) (r : List (Int × Int) × Option Int) : fin mk out ((a, v) :: r.1, r.2) = fin mk (out ++ [mk a v]) r := by
  unfold fin
  cases r.2 with
  | none => simp
  | some b => rfl
theorem decode_loop (s : ByteArray) (hs : s.size ≤ 1000000000) : ∀ (f k x : Nat) (out : List S39), s.size - x < f → s.size - x < k → out.length + (s.size - x) ≤ 2000000000 →
    runes_Decode.l0 k s out (x : Int) = some (fin (fun a v => (⟨a, v⟩ : S39)) out (run f (bytesOf s) x)) := by
  intro f
  induction f with
  | zero => intro k x out h; omega
  | succ f ih =>
    intro k x out hf hk ho
    obtain ⟨k, rfl⟩ : ∃ m, k = m + 1 := ⟨k - 1, by omega⟩
    simp only [runes_Decode.l0]
    have hl := bytesOf_length s
    by_cases hx : x < s.size
    · rw [if_pos (by omega)]
      have htn : ((x : Int)).toNat = x := by omega
      rw [htn]
      rcases decode_is s x hx with ⟨v, n, hd, hr, he⟩ | ⟨hd, hr, he⟩
      · have hp := dec4_pos hd
        have hin := decAt_in hd
        rw [run_step (by omega) hd, fin_step, hr, he]
        have next : runes_Decode.l0 k s (out ++ [(⟨(x : Int), v⟩ : S39)]) ((x : Int) + (n : Int)) = some (fin (fun a v => (⟨a, v⟩ : S39)) (out ++ [⟨(x : Int), v⟩]) (run f (bytesOf s) (x + n))) := by
          have := ih k (x + n) (out ++ [⟨(x : Int), v⟩]) (by omega) (by omega) (by simp only [List.length_append, List.length_singleton]; omega)
          rw [← this]
          congr 1
        by_cases h65 : v = 65533
        · rw [if_pos h65, prefix_is s x hx]
          have ht := decAt_enc hd
          have e3 : n = 3 := by
            have := dec4_width hd
            rw [h65] at this
            exact this.symm
          subst e3
          have : decide (gb (bytesOf s) x = 239 ∧ gb (bytesOf s) (x + 1) = 191 ∧ gb (bytesOf s) (x + 2) = 189) = true := by
            have h4 := dec4_enc hd
            rw [h65] at h4
            have e0 : enc 65533 = [239, 191, 189] := by decide
            rw [e0] at h4
            simp only [List.take_succ_cons, List.take_zero, List.cons.injEq, and_true] at h4
            exact decide_eq_true ⟨h4.1.symm, h4.2.1.symm, h4.2.2.symm⟩
          rw [this]
          simp only [Option.bind_some]
          rw [if_pos trivial, if_pos (by omega)]
          exact next
        · rw [if_neg h65, if_pos (by omega)]
          exact next
      · rw [run_bad (by omega) hd, hr, if_pos rfl, prefix_is s x hx]
        have : decide (gb (bytesOf s) x = 239 ∧ gb (bytesOf s) (x + 1) = 191 ∧ gb (bytesOf s) (x + 2) = 189) = false := by
          rw [decide_eq_false_iff_not]
          rintro ⟨h1, h2, h3⟩
          have : decAt (bytesOf s) x = some (65533, 3) := by
            unfold decAt; rw [h1, h2, h3]
            unfold dec4 Cn v2 v3
            rw [if_neg (by omega), if_neg (by omega), if_pos (by omega)]; rfl
          rw [this] at hd; simp at hd
        rw [this]
        simp only [Option.bind_some]
        rw [if_neg (by simp)]
        rfl
    · rw [if_neg (by omega), run_end (by omega)]
      simp [fin]
theorem decode_tells (s : ByteArray) (hs : s.size ≤ 1000000000) (k : Nat) (hk : s.size < k) :
    runes_Decode.f k s = some (fin (fun a v => (⟨a, v⟩ : S39)) [] (runs (bytesOf s))) := by
  unfold runes_Decode.f runs
  have := decode_loop s hs ((bytesOf s).length + 1) k 0 [] (by rw [bytesOf_length]; omega) (by omega) (by simp; omega)
  exact this

theorem wrap_id {i : Int} (h0 : -9223372036854775808 ≤ i) (h : i ≤ 9223372036854775807) : wrap64 i = i := by
  unfold wrap64
  omega
theorem wrap32_id {i : Int} (h0 : -2147483648 ≤ i) (h : i ≤ 2147483647) : wrap32 i = i := by
  unfold wrap32
  omega
theorem one_bad (s : ByteArray) (n least v i : Int) (k : Nat) (h0 : 0 ≤ i) (h1 : i < n) (h2 : i < s.size) (hc : ¬ Cn (bt s i)) : carcanetref01_One.l0 (k + 1) s n least v i = some (0, 0) := by
  have hb := bt_range s i
  unfold Cn at hc
  simp only [carcanetref01_One.l0]
  rw [if_pos h1, if_pos h0, if_pos h2, wrap_id (by omega) (by omega)]
  split
  · rfl
  · rw [if_pos (by omega)]
theorem one_on (s : ByteArray) (n least v i : Int) (k : Nat) (h0 : 0 ≤ i) (h1 : i < n) (h2 : i < s.size) (hn : n ≤ 4) (hv0 : 0 ≤ v) (hv : v ≤ 1000000000) (hc : Cn (bt s i)) : carcanetref01_One.l0 (k + 1) s n least v i = carcanetref01_One.l0 k s n least (v * 64 + (bt s i - 128)) (i + 1) := by
  have hb := bt_range s i
  unfold Cn at hc
  simp only [carcanetref01_One.l0]
  rw [if_pos h1, if_pos h0, if_pos h2, wrap_id (i := bt s i) (by omega) (by omega), if_neg (by omega), if_neg (by omega), wrap_id (i := v * 64) (by omega) (by omega), wrap_id (i := v * 64 + bt s i) (by omega) (by omega), wrap_id (i := v * 64 + bt s i - 128) (by omega) (by omega), wrap_id (i := i + 1) (by omega) (by omega)]
  congr 1
  omega
theorem one_end (s : ByteArray) (n least v : Int) (k : Nat) : carcanetref01_One.l0 (k + 1) s n least v n = some (if least ≤ v ∧ v ≤ 1114111 ∧ ¬ (55296 ≤ v ∧ v < 57344) then (v, n) else (0, 0)) := by
  simp only [carcanetref01_One.l0]
  rw [if_neg (by omega)]
  by_cases h : least ≤ v ∧ v ≤ 1114111 ∧ ¬ (55296 ≤ v ∧ v < 57344)
  · rw [if_pos h, if_neg (by omega), if_neg (by omega)]
    split
    · rw [if_neg (by omega)]
    · rfl
  · rw [if_neg h]
    split
    · rfl
    · split
      · rfl
      · rw [if_pos (by omega), if_pos (by omega)]
def oneOf (r : Option (Int × Nat)) : Int × Int := match r with
  | some (v, n) => (v, n)
  | none => (0, 0)
set_option maxHeartbeats 2000000 in
theorem one_is (s : ByteArray) (hs : 0 < s.size) (k : Nat) : carcanetref01_One.f (k + 20) s = some (oneOf (decAt (bytesOf s) 0)) := by
  have hne : ¬ s.toList = ([] : List UInt8) := by
    rw [ByteArray.toList_eq]; intro h
    have := data_length s; rw [h] at this; simp at this; omega
  have hb := bt_range s 0
  have h0 : gb (bytesOf s) 0 = bt s 0 := gb_bt s 0 hs
  have hg : ∀ i : Nat, (i < s.size → gb (bytesOf s) i = bt s i ∧ 0 ≤ gb (bytesOf s) i) ∧ (¬ i < s.size → gb (bytesOf s) i = -1) := fun i => ⟨fun h => ⟨gb_bt s i h, by rw [gb_bt s i h]; exact (bt_range s i).1⟩, gb_past s i⟩
  have h1 := hg 1
  have h2 := hg 2
  have h3 := hg 3
  have ew : wrap64 (bt s 0) = bt s 0 := wrap_id (by omega) (by omega)
  unfold carcanetref01_One.f
  rw [if_neg hne, if_pos (by omega), ew]
  unfold decAt
  simp only [Nat.zero_add]
  rw [h0]
  have c1 : Cn (gb (bytesOf s) 1) → 1 < s.size := fun h => by unfold Cn at h; by_cases q : 1 < s.size; exact q; have := h1.2 q; omega
  have c2 : Cn (gb (bytesOf s) 2) → 2 < s.size := fun h => by unfold Cn at h; by_cases q : 2 < s.size; exact q; have := h2.2 q; omega
  have c3 : Cn (gb (bytesOf s) 3) → 3 < s.size := fun h => by unfold Cn at h; by_cases q : 3 < s.size; exact q; have := h3.2 q; omega
  by_cases a1 : bt s 0 < 128
  · rw [if_pos a1]; unfold dec4; rw [if_pos (by omega)]; rfl
  · rw [if_neg a1]
    by_cases a2 : bt s 0 < 192
    · rw [if_neg (by omega)]
      simp only [carcanetref01_One.j0, carcanetref01_One.j1, carcanetref01_One.j2, carcanetref01_One.j3, carcanetref01_One.j4, carcanetref01_One.j5, carcanetref01_One.j6]
      rw [if_neg (by simp), if_neg (by omega), if_neg (by simp), if_neg (by omega), if_neg (by simp), if_pos trivial, if_pos trivial]
      unfold dec4; rw [if_neg (by omega), if_neg (by omega), if_neg (by omega), if_neg (by omega)]; rfl
    · rw [if_pos (by omega)]
      by_cases a3 : bt s 0 < 224
      · simp only [carcanetref01_One.j0, carcanetref01_One.j1, carcanetref01_One.j2, carcanetref01_One.j3, carcanetref01_One.j4, carcanetref01_One.j5, carcanetref01_One.j6]
        rw [if_pos (by simpa using a3), if_neg (by omega), if_neg (by simp), if_neg (by omega), if_neg (by simp), if_neg (by omega)]
        rw [wrap_id (i := bt s 0 - 192) (by omega) (by omega)]
        by_cases q : s.size < 2
        · rw [if_pos (by simp; omega)]
          unfold dec4; rw [if_neg (by omega), if_neg (fun h => by have := c1 h.2.2.1; omega), if_neg (by omega), if_neg (by omega)]; rfl
        · rw [if_neg (by simp; omega)]
          have e1 := (h1.1 (by omega)).1
          rw [e1] at c1
          rw [e1]
          by_cases n1 : Cn (bt s 1)
          · rw [one_on s 2 128 _ 1 _ (by omega) (by omega) (by omega) (by omega) (by omega) (by omega) n1]
            rw [show (1 : Int) + 1 = 2 from rfl, one_end]
            have n1' := n1
            unfold Cn at n1'
            congr 1
            have ev : (bt s 0 - 192) * 64 + (bt s 1 - 128) = v2 (bt s 0) (bt s 1) := rfl
            rw [ev]
            by_cases q : 128 ≤ v2 (bt s 0) (bt s 1)
            · rw [if_pos ⟨q, by unfold v2; omega, by unfold v2; omega⟩]
              unfold dec4; rw [if_neg (by omega), if_pos ⟨by omega, a3, n1, q⟩]; rfl
            · rw [if_neg (fun h => q h.1)]
              unfold dec4; rw [if_neg (by omega), if_neg (fun h => q h.2.2.2), if_neg (by omega), if_neg (by omega)]; rfl
          · rw [one_bad s 2 128 _ 1 _ (by omega) (by omega) (by omega) n1]
            unfold dec4; rw [if_neg (by omega), if_neg (fun h => n1 h.2.2.1), if_neg (by omega), if_neg (by omega)]; rfl
      · by_cases a4 : bt s 0 < 240
        · simp only [carcanetref01_One.j0, carcanetref01_One.j1, carcanetref01_One.j2, carcanetref01_One.j3, carcanetref01_One.j4, carcanetref01_One.j5, carcanetref01_One.j6]
          rw [if_neg (by simpa using a3), if_pos (by omega), if_pos (by simpa using a4), if_neg (by omega), if_neg (by simp), if_neg (by omega)]
          rw [wrap_id (i := bt s 0 - 224) (by omega) (by omega)]
          by_cases q : s.size < 3
          · rw [if_pos (by simp; omega)]
            unfold dec4; rw [if_neg (by omega), if_neg (by omega), if_neg (fun h => by have := c2 h.2.2.2.1; omega), if_neg (by omega)]; rfl
          · rw [if_neg (by simp; omega)]
            have e1 := (h1.1 (by omega)).1
            have e2 := (h2.1 (by omega)).1
            rw [e1, e2]
            by_cases n1 : Cn (bt s 1)
            · have n1' := n1
              unfold Cn at n1'
              rw [one_on s 3 2048 _ 1 _ (by omega) (by omega) (by omega) (by omega) (by omega) (by omega) n1, show (1 : Int) + 1 = 2 from rfl]
              by_cases n2 : Cn (bt s 2)
              · have n2' := n2
                unfold Cn at n2'
                rw [one_on s 3 2048 _ 2 _ (by omega) (by omega) (by omega) (by omega) (by omega) (by omega) n2, show (2 : Int) + 1 = 3 from rfl, one_end]
                congr 1
                have ev : ((bt s 0 - 224) * 64 + (bt s 1 - 128)) * 64 + (bt s 2 - 128) = v3 (bt s 0) (bt s 1) (bt s 2) := by unfold v3; omega
                rw [ev]
                by_cases q : 2048 ≤ v3 (bt s 0) (bt s 1) (bt s 2) ∧ (v3 (bt s 0) (bt s 1) (bt s 2) < 55296 ∨ 57344 ≤ v3 (bt s 0) (bt s 1) (bt s 2))
                · rw [if_pos ⟨q.1, by unfold v3; omega, by omega⟩]
                  unfold dec4; rw [if_neg (by omega), if_neg (by omega), if_pos ⟨by omega, a4, n1, n2, q⟩]; rfl
                · rw [if_neg (fun h => q ⟨h.1, by omega⟩)]
                  unfold dec4; rw [if_neg (by omega), if_neg (by omega), if_neg (fun h => q h.2.2.2.2), if_neg (by omega)]; rfl
              · rw [one_bad s 3 2048 _ 2 _ (by omega) (by omega) (by omega) n2]
                unfold dec4; rw [if_neg (by omega), if_neg (by omega), if_neg (fun h => n2 h.2.2.2.1), if_neg (by omega)]; rfl
            · rw [one_bad s 3 2048 _ 1 _ (by omega) (by omega) (by omega) n1]
              unfold dec4; rw [if_neg (by omega), if_neg (by omega), if_neg (fun h => n1 h.2.2.1), if_neg (by omega)]; rfl
        · by_cases a5 : bt s 0 < 248
          · simp only [carcanetref01_One.j0, carcanetref01_One.j1, carcanetref01_One.j2, carcanetref01_One.j3, carcanetref01_One.j4, carcanetref01_One.j5, carcanetref01_One.j6]
            rw [if_neg (by simpa using a3), if_pos (by omega), if_neg (by simpa using a4), if_pos (by omega), if_pos (by simpa using a5), if_neg (by omega)]
            rw [wrap_id (i := bt s 0 - 240) (by omega) (by omega)]
            by_cases q : s.size < 4
            · rw [if_pos (by simp; omega)]
              unfold dec4; rw [if_neg (by omega), if_neg (by omega), if_neg (by omega), if_neg (fun h => by have := c3 h.2.2.2.2.1; omega)]; rfl
            · rw [if_neg (by simp; omega)]
              have e1 := (h1.1 (by omega)).1
              have e2 := (h2.1 (by omega)).1
              have e3 := (h3.1 (by omega)).1
              rw [e1, e2, e3]
              by_cases n1 : Cn (bt s 1)
              · have n1' := n1
                unfold Cn at n1'
                rw [one_on s 4 65536 _ 1 _ (by omega) (by omega) (by omega) (by omega) (by omega) (by omega) n1, show (1 : Int) + 1 = 2 from rfl]
                by_cases n2 : Cn (bt s 2)
                · have n2' := n2
                  unfold Cn at n2'
                  rw [one_on s 4 65536 _ 2 _ (by omega) (by omega) (by omega) (by omega) (by omega) (by omega) n2, show (2 : Int) + 1 = 3 from rfl]
                  by_cases n3 : Cn (bt s 3)
                  · have n3' := n3
                    unfold Cn at n3'
                    rw [one_on s 4 65536 _ 3 _ (by omega) (by omega) (by omega) (by omega) (by omega) (by omega) n3, show (3 : Int) + 1 = 4 from rfl, one_end]
                    congr 1
                    have ev : (((bt s 0 - 240) * 64 + (bt s 1 - 128)) * 64 + (bt s 2 - 128)) * 64 + (bt s 3 - 128) = v4 (bt s 0) (bt s 1) (bt s 2) (bt s 3) := by unfold v4; omega
                    rw [ev]
                    by_cases q : 65536 ≤ v4 (bt s 0) (bt s 1) (bt s 2) (bt s 3) ∧ v4 (bt s 0) (bt s 1) (bt s 2) (bt s 3) ≤ 1114111
                    · rw [if_pos ⟨q.1, q.2, by omega⟩]
                      unfold dec4; rw [if_neg (by omega), if_neg (by omega), if_neg (by omega), if_pos ⟨by omega, a5, n1, n2, n3, q⟩]; rfl
                    · rw [if_neg (fun h => q ⟨h.1, h.2.1⟩)]
                      unfold dec4; rw [if_neg (by omega), if_neg (by omega), if_neg (by omega), if_neg (fun h => q h.2.2.2.2.2)]; rfl
                  · rw [one_bad s 4 65536 _ 3 _ (by omega) (by omega) (by omega) n3]
                    unfold dec4; rw [if_neg (by omega), if_neg (by omega), if_neg (by omega), if_neg (fun h => n3 h.2.2.2.2.1)]; rfl
                · rw [one_bad s 4 65536 _ 2 _ (by omega) (by omega) (by omega) n2]
                  unfold dec4; rw [if_neg (by omega), if_neg (by omega), if_neg (by omega), if_neg (fun h => n2 h.2.2.2.1)]; rfl
              · rw [one_bad s 4 65536 _ 1 _ (by omega) (by omega) (by omega) n1]
                unfold dec4; rw [if_neg (by omega), if_neg (by omega), if_neg (by omega), if_neg (fun h => n1 h.2.2.1)]; rfl
          · simp only [carcanetref01_One.j0, carcanetref01_One.j1, carcanetref01_One.j2, carcanetref01_One.j3, carcanetref01_One.j4, carcanetref01_One.j5, carcanetref01_One.j6]
            rw [if_neg (by simpa using a3), if_pos (by omega), if_neg (by simpa using a4), if_pos (by omega), if_neg (by simpa using a5), if_pos trivial, if_pos trivial]
            unfold dec4; rw [if_neg (by omega), if_neg (by omega), if_neg (by omega), if_neg (by omega)]; rfl
theorem dec4_val {a b c d v : Int} {n : Nat} (h : dec4 a b c d = some (v, n)) : 0 ≤ v ∧ v ≤ 1114111 := by
  unfold dec4 Cn v2 v3 v4 at h
  repeat' split at h
  all_goals first | (simp only [Option.some.injEq, Prod.mk.injEq] at h; omega) | (simp at h)
theorem refdecode_loop (s : ByteArray) (hs : s.size ≤ 1000000000) : ∀ (f k x : Nat) (out : List S44), s.size - x < f → s.size - x + 21 < k → out.length + (s.size - x) ≤ 2000000000 →
    carcanetref01_Decode.l0 k s out (x : Int) = some (fin (fun a v => (⟨a, v⟩ : S44)) out (run f (bytesOf s) x)) := by
  intro f
  induction f with
  | zero => intro k x out h; omega
  | succ f ih =>
    intro k x out hf hk ho
    obtain ⟨k, rfl⟩ : ∃ m, k = m + 1 := ⟨k - 1, by omega⟩
    simp only [carcanetref01_Decode.l0]
    obtain ⟨k, rfl⟩ : ∃ m, k = m + 20 := ⟨k - 20, by omega⟩
    have hl := bytesOf_length s
    by_cases hx : x < s.size
    · have htn : ((x : Int)).toNat = x := by omega
      have hsz : (s.extract x s.size).size = s.size - x := by rw [ByteArray.size_extract]; omega
      rw [if_pos (by omega), if_pos (by omega), if_pos (by omega), htn, one_is _ (by omega) k]
      have ed : decAt (bytesOf (s.extract x s.size)) 0 = decAt (bytesOf s) x := by
        rw [bytesOf_extract, List.take_of_length_le (by omega), decAt_drop]; rfl
      rw [ed]
      simp only [Option.bind_some]
      cases hd : decAt (bytesOf s) x with
      | none =>
        rw [run_bad (by omega) hd]
        simp only [oneOf]
        rw [if_pos trivial]; rfl
      | some p =>
        obtain ⟨v, n⟩ := p
        have hp := dec4_pos hd
        have hin := decAt_in hd
        have hv := dec4_val hd
        rw [run_step (by omega) hd, fin_step]
        show (if (n : Int) = 0 then some (([] : List S44), (x : Int), (2 : Int)) else (if out.length < 8796093022208 then (carcanetref01_Decode.l0 (k + 20) s (out ++ [(⟨(x : Int), wrap32 v⟩ : S44)]) (wrap64 ((x : Int) + (n : Int)))) else none)) = _
        rw [if_neg (show ¬ ((n : Int) = 0) by omega), if_pos (show out.length < 8796093022208 by omega), wrap32_id (by omega) (by omega), wrap_id (by omega) (by omega)]
        have := ih (k + 20) (x + n) (out ++ [⟨(x : Int), v⟩]) (by omega) (by omega) (by simp only [List.length_append, List.length_singleton]; omega)
        rw [← this]
        congr 1
    · rw [if_neg (by omega), run_end (by omega)]
      simp [fin]
theorem refdecode_tells (s : ByteArray) (hs : s.size ≤ 1000000000) (k : Nat) (hk : s.size + 22 < k) :
    carcanetref01_Decode.f k s = some (fin (fun a v => (⟨a, v⟩ : S44)) [] (runs (bytesOf s))) := by
  unfold carcanetref01_Decode.f runs
  have := refdecode_loop s hs ((bytesOf s).length + 1) k 0 [] (by rw [bytesOf_length]; omega) (by omega) (by simp; omega)
  exact this
end Go.Proofs.Ytipifdcamhmjaaa.Rn
