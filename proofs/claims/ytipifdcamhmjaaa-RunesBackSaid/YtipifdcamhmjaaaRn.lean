/- Bytes as runes: the plain mathematics of decoding and encoding, no program in it. -/
import Derived.Test.YtipifdcamhmjaaaWWords
namespace Go.Proofs.Ytipifdcamhmjaaa.Rn
open Go.Proofs.YtipifdcamhmjaaaW.PrintWords

/-- A byte that goes on. -/
def Cn (b : Int) : Prop := 128 ≤ b ∧ b < 192
instance (b : Int) : Decidable (Cn b) := by unfold Cn; infer_instance
def v2 (a b : Int) : Int := (a - 192) * 64 + (b - 128)
def v3 (a b c : Int) : Int := (a - 224) * 4096 + (b - 128) * 64 + (c - 128)
def v4 (a b c d : Int) : Int := (a - 240) * 262144 + (b - 128) * 4096 + (c - 128) * 64 + (d - 128)
/-- The rune that four bytes begin with, and its width; a byte below 0 isn't there. -/
def dec4 (a b c d : Int) : Option (Int × Nat) :=
  if 0 ≤ a ∧ a < 128 then some (a, 1)
  else if 192 ≤ a ∧ a < 224 ∧ Cn b ∧ 128 ≤ v2 a b then some (v2 a b, 2)
  else if 224 ≤ a ∧ a < 240 ∧ Cn b ∧ Cn c ∧ 2048 ≤ v3 a b c ∧ (v3 a b c < 55296 ∨ 57344 ≤ v3 a b c) then some (v3 a b c, 3)
  else if 240 ≤ a ∧ a < 248 ∧ Cn b ∧ Cn c ∧ Cn d ∧ 65536 ≤ v4 a b c d ∧ v4 a b c d ≤ 1114111 then some (v4 a b c d, 4)
  else none
def gb (l : List Int) (i : Nat) : Int := l.getD i (-1)
def decAt (l : List Int) (x : Nat) : Option (Int × Nat) := dec4 (gb l x) (gb l (x + 1)) (gb l (x + 2)) (gb l (x + 3))
def width (r : Int) : Nat := if r < 0 ∨ 1114111 < r ∨ (55296 ≤ r ∧ r < 57344) then 0 else if r < 128 then 1 else if r < 2048 then 2 else if r < 65536 then 3 else 4
/-- The bytes of a rune. -/
def enc (r : Int) : List Int :=
  if width r = 1 then [r] else if width r = 2 then [192 + r / 64, 128 + r % 64]
  else if width r = 3 then [224 + r / 4096, 128 + r / 64 % 64, 128 + r % 64]
  else if width r = 4 then [240 + r / 262144, 128 + r / 4096 % 64, 128 + r / 64 % 64, 128 + r % 64] else []
theorem enc_length (r : Int) : (enc r).length = width r := by
  unfold enc
  split
  · simp_all
  · split
    · simp_all
    · split
      · simp_all
      · split
        · simp_all
        · simp only [List.length_nil]
          unfold width at *
          repeat' split at *
          all_goals omega
theorem width_le (r : Int) : width r ≤ 4 := by
  unfold width
  repeat' split
  all_goals omega
theorem dec4_pos {a b c d v : Int} {n : Nat} (h : dec4 a b c d = some (v, n)) : 1 ≤ n ∧ n ≤ 4 := by
  unfold dec4 at h
  repeat' split at h
  all_goals first | (simp only [Option.some.injEq, Prod.mk.injEq] at h; omega) | (simp at h)
theorem dec4_width {a b c d v : Int} {n : Nat} (h : dec4 a b c d = some (v, n)) : width v = n := by
  unfold dec4 Cn at h
  split at h
  · simp only [Option.some.injEq, Prod.mk.injEq] at h
    obtain ⟨rfl, rfl⟩ := h
    unfold width; rw [if_neg (by omega), if_pos (by omega)]
  · split at h
    · simp only [Option.some.injEq, Prod.mk.injEq] at h
      obtain ⟨rfl, rfl⟩ := h
      unfold width v2 at *; rw [if_neg (by omega), if_neg (by omega), if_pos (by omega)]
    · split at h
      · simp only [Option.some.injEq, Prod.mk.injEq] at h
        obtain ⟨rfl, rfl⟩ := h
        unfold width v3 at *; rw [if_neg (by omega), if_neg (by omega), if_neg (by omega), if_pos (by omega)]
      · split at h
        · simp only [Option.some.injEq, Prod.mk.injEq] at h
          obtain ⟨rfl, rfl⟩ := h
          unfold width v4 at *; rw [if_neg (by omega), if_neg (by omega), if_neg (by omega), if_neg (by omega)]
        · simp at h
/-- What was decoded has these bytes. -/
theorem dec4_enc {a b c d v : Int} {n : Nat} (h : dec4 a b c d = some (v, n)) : enc v = [a, b, c, d].take n := by
  have hw := dec4_width h
  unfold dec4 Cn at h
  split at h
  · simp only [Option.some.injEq, Prod.mk.injEq] at h
    obtain ⟨rfl, rfl⟩ := h
    unfold enc; rw [if_pos hw]; rfl
  · split at h
    · simp only [Option.some.injEq, Prod.mk.injEq] at h
      obtain ⟨rfl, rfl⟩ := h
      unfold enc; rw [if_neg (by omega), if_pos hw]
      unfold v2
      have e1 : 192 + ((a - 192) * 64 + (b - 128)) / 64 = a := by omega
      have e2 : 128 + ((a - 192) * 64 + (b - 128)) % 64 = b := by omega
      rw [e1, e2]; rfl
    · split at h
      · simp only [Option.some.injEq, Prod.mk.injEq] at h
        obtain ⟨rfl, rfl⟩ := h
        unfold enc; rw [if_neg (by omega), if_neg (by omega), if_pos hw]
        unfold v3
        have e1 : 224 + ((a - 224) * 4096 + (b - 128) * 64 + (c - 128)) / 4096 = a := by omega
        have e2 : 128 + ((a - 224) * 4096 + (b - 128) * 64 + (c - 128)) / 64 % 64 = b := by omega
        have e3 : 128 + ((a - 224) * 4096 + (b - 128) * 64 + (c - 128)) % 64 = c := by omega
        rw [e1, e2, e3]; rfl
      · split at h
        · simp only [Option.some.injEq, Prod.mk.injEq] at h
          obtain ⟨rfl, rfl⟩ := h
          unfold enc; rw [if_neg (by omega), if_neg (by omega), if_neg (by omega), if_pos hw]
          unfold v4
          have e1 : 240 + ((a - 240) * 262144 + (b - 128) * 4096 + (c - 128) * 64 + (d - 128)) / 262144 = a := by omega
          have e2 : 128 + ((a - 240) * 262144 + (b - 128) * 4096 + (c - 128) * 64 + (d - 128)) / 4096 % 64 = b := by omega
          have e3 : 128 + ((a - 240) * 262144 + (b - 128) * 4096 + (c - 128) * 64 + (d - 128)) / 64 % 64 = c := by omega
          have e4 : 128 + ((a - 240) * 262144 + (b - 128) * 4096 + (c - 128) * 64 + (d - 128)) % 64 = d := by omega
          rw [e1, e2, e3, e4]; rfl
        · simp at h
/-- A byte that goes on begins no rune. -/
theorem dec4_cn {a b c d : Int} (h : Cn a) : dec4 a b c d = none := by
  unfold Cn at h
  unfold dec4
  rw [if_neg (by omega), if_neg (by omega), if_neg (by omega), if_neg (by omega)]
/-- Where there is a rune, all its bytes but the first go on. -/
theorem dec4_tail {a b c d v : Int} {n : Nat} (h : dec4 a b c d = some (v, n)) : (2 ≤ n → Cn b) ∧ (3 ≤ n → Cn c) ∧ (4 ≤ n → Cn d) ∧ 0 ≤ a := by
  unfold dec4 at h
  unfold Cn at *
  repeat' split at h
  all_goals first | (simp only [Option.some.injEq, Prod.mk.injEq] at h; omega) | (simp at h)
/-- The bytes behind a rune don't matter. -/
theorem dec4_agree {a b c d v b' c' d' : Int} {n : Nat} (h : dec4 a b c d = some (v, n)) (hb : 2 ≤ n → b' = b) (hc : 3 ≤ n → c' = c) (hd : 4 ≤ n → d' = d) : dec4 a b' c' d' = some (v, n) := by
  unfold dec4 at h ⊢
  split at h
  · rw [if_pos ‹_›]; exact h
  · rw [if_neg ‹_›]
    split at h
    · simp only [Option.some.injEq, Prod.mk.injEq] at h
      obtain ⟨rfl, rfl⟩ := h
      rw [hb (by omega), if_pos ‹_›]
    · split at h
      · have h' := h
        simp only [Option.some.injEq, Prod.mk.injEq] at h'
        obtain ⟨e1, rfl⟩ := h'
        rw [hb (by omega), hc (by omega), if_neg ‹_›, if_pos ‹_›]; exact h
      · split at h
        · have h' := h
          simp only [Option.some.injEq, Prod.mk.injEq] at h'
          obtain ⟨e1, rfl⟩ := h'
          rw [hb (by omega), hc (by omega), hd (by omega), if_neg ‹_›, if_neg ‹_›, if_pos ‹_›]; exact h
        · simp at h
/-- A rune that is cut off is none. -/
theorem dec4_cut {a b c d v b' c' d' : Int} {n m : Nat} (h : dec4 a b c d = some (v, n)) (hm : m < n) (h1 : 1 ≤ m) (hb0 : m < 2 → b' = -1) (hc0 : m < 3 → c' = -1) (hd0 : m < 4 → d' = -1) : dec4 a b' c' d' = none := by
  have hd1 := hd0 (by have := (dec4_pos h).2; omega)
  unfold dec4 Cn at h
  split at h
  · simp only [Option.some.injEq, Prod.mk.injEq] at h; omega
  · split at h
    · simp only [Option.some.injEq, Prod.mk.injEq] at h
      have := hb0 (by omega)
      unfold dec4 Cn
      rw [if_neg (by omega), if_neg (by omega), if_neg (by omega), if_neg (by omega)]
    · split at h
      · simp only [Option.some.injEq, Prod.mk.injEq] at h
        have := hc0 (by omega)
        unfold dec4 Cn
        rw [if_neg (by omega), if_neg (by omega), if_neg (by omega), if_neg (by omega)]
      · split at h
        · simp only [Option.some.injEq, Prod.mk.injEq] at h
          unfold dec4 Cn
          rw [if_neg (by omega), if_neg (by omega), if_neg (by omega), if_neg (by omega)]
        · simp at h
/-- What was encoded is decoded. -/
theorem enc_dec4 (r : Int) (hw : width r ≠ 0) (l : List Int) : decAt (enc r ++ l) 0 = some (r, width r) := by
  have hcase : width r = 1 ∨ width r = 2 ∨ width r = 3 ∨ width r = 4 := by have := width_le r; omega
  rcases hcase with h | h | h | h
  · rw [h]
    unfold enc; rw [if_pos h]
    simp only [decAt, gb, List.cons_append, List.nil_append, List.getD_cons_zero]
    unfold dec4
    unfold width at h
    repeat' split at h
    all_goals first | omega | rw [if_pos (by omega)]
  · rw [h]
    unfold enc; rw [if_neg (by omega), if_pos h]
    simp only [decAt, gb, List.cons_append, List.nil_append, List.getD_cons_zero, List.getD_cons_succ]
    unfold width at h
    repeat' split at h
    all_goals try omega
    have e : v2 (192 + r / 64) (128 + r % 64) = r := by unfold v2; omega
    unfold dec4 Cn
    rw [if_neg (by omega), e, if_pos (by omega)]
  · rw [h]
    unfold enc; rw [if_neg (by omega), if_neg (by omega), if_pos h]
    simp only [decAt, gb, List.cons_append, List.nil_append, List.getD_cons_zero, List.getD_cons_succ]
    unfold width at h
    repeat' split at h
    all_goals try omega
    have e : v3 (224 + r / 4096) (128 + r / 64 % 64) (128 + r % 64) = r := by unfold v3; omega
    unfold dec4 Cn
    rw [if_neg (by omega), if_neg (by omega), e, if_pos (by omega)]
  · rw [h]
    unfold enc; rw [if_neg (by omega), if_neg (by omega), if_neg (by omega), if_pos h]
    simp only [decAt, gb, List.cons_append, List.nil_append, List.getD_cons_zero, List.getD_cons_succ]
    unfold width at h
    repeat' split at h
    all_goals try omega
    have e : v4 (240 + r / 262144) (128 + r / 4096 % 64) (128 + r / 64 % 64) (128 + r % 64) = r := by unfold v4; omega
    unfold dec4 Cn
    rw [if_neg (by omega), if_neg (by omega), if_neg (by omega), e, if_pos (by omega)]

theorem gb_lt {l : List Int} {i : Nat} (h : i < l.length) : gb l i = l[i] := by
  unfold gb; simp [h]
theorem gb_ge {l : List Int} {i : Nat} (h : l.length ≤ i) : gb l i = -1 := by
  unfold gb; rw [List.getD_eq_getElem?_getD, List.getElem?_eq_none h]; rfl
theorem gb_drop (l : List Int) (x i : Nat) : gb (l.drop x) i = gb l (x + i) := by
  unfold gb; simp [List.getD_eq_getElem?_getD, List.getElem?_drop]
theorem decAt_drop (l : List Int) (x y : Nat) : decAt (l.drop x) y = decAt l (x + y) := by
  unfold decAt; simp only [gb_drop, Nat.add_assoc]
theorem gb_append_lt {l m : List Int} {i : Nat} (h : i < l.length) : gb (l ++ m) i = gb l i := by
  unfold gb; simp [List.getD_eq_getElem?_getD, List.getElem?_append_left h]
theorem gb_append_ge {l m : List Int} {i : Nat} (h : l.length ≤ i) : gb (l ++ m) i = gb m (i - l.length) := by
  unfold gb; simp [List.getD_eq_getElem?_getD, List.getElem?_append_right h]
theorem gb_take_lt {l : List Int} {m i : Nat} (h : i < m) : gb (l.take m) i = gb l i := by
  unfold gb; simp [List.getD_eq_getElem?_getD, h]
theorem gb_take_ge {l : List Int} {m i : Nat} (h : m ≤ i) : gb (l.take m) i = -1 := by
  unfold gb; rw [List.getD_eq_getElem?_getD, List.getElem?_eq_none (by rw [List.length_take]; omega)]; rfl
/-- A rune lies in its text, if bytes are none below 0. -/
theorem decAt_in {l : List Int} {x : Nat} {v : Int} {n : Nat} (h : decAt l x = some (v, n)) : x + n ≤ l.length := by
  have ht := dec4_tail h
  have hp := dec4_pos h
  have key : ∀ i, 0 ≤ gb l i → i < l.length := fun i hi => by
    rcases Nat.lt_or_ge i l.length with h' | h'
    · exact h'
    · rw [gb_ge h'] at hi; omega
  unfold Cn at ht
  have c : n = 1 ∨ n = 2 ∨ n = 3 ∨ n = 4 := by omega
  rcases c with rfl | rfl | rfl | rfl
  · have := key x ht.2.2.2; omega
  · have := key (x + 1) (by have := ht.1 (by omega); omega); omega
  · have := key (x + 2) (by have := ht.2.1 (by omega); omega); omega
  · have := key (x + 3) (by have := ht.2.2.1 (by omega); omega); omega
/-- The rune's bytes. -/
theorem decAt_enc {l : List Int} {x : Nat} {v : Int} {n : Nat} (h : decAt l x = some (v, n)) : enc v = (l.drop x).take n := by
  have hin := decAt_in h
  have hp := dec4_pos h
  rw [dec4_enc h]
  have e : ∀ i, i < n → [gb l x, gb l (x + 1), gb l (x + 2), gb l (x + 3)][i]? = (l.drop x)[i]? := by
    intro i hi
    have : x + i < l.length := by omega
    have c : i = 0 ∨ i = 1 ∨ i = 2 ∨ i = 3 := by omega
    rcases c with rfl | rfl | rfl | rfl <;> simp [gb_lt this] <;> first | exact (gb_lt this) | (rw [gb_lt (by omega)]; simp_all)
  apply List.ext_getElem?
  intro i
  rw [List.getElem?_take, List.getElem?_take]
  split
  · exact e i ‹_›
  · rfl

/-- All runes of a text from a place on; the place of the first that is none. -/
def run : Nat → List Int → Nat → List (Int × Int) × Option Int
  | 0, _, _ => ([], none)
  | f + 1, l, x => if x < l.length then (match decAt l x with | none => ([], some (x : Int)) | some (v, n) => (((x : Int), v) :: (run f l (x + n)).1, (run f l (x + n)).2)) else ([], none)
theorem run_end {f : Nat} {l : List Int} {x : Nat} (h : l.length ≤ x) : run f l x = ([], none) := by
  cases f with
  | zero => rfl
  | succ f => simp only [run]; rw [if_neg (by omega)]
theorem run_bad {f : Nat} {l : List Int} {x : Nat} (h : x < l.length) (hd : decAt l x = none) : run (f + 1) l x = ([], some (x : Int)) := by
  simp only [run]; rw [if_pos h, hd]
theorem run_step {f : Nat} {l : List Int} {x : Nat} {v : Int} {n : Nat} (h : x < l.length) (hd : decAt l x = some (v, n)) : run (f + 1) l x = (((x : Int), v) :: (run f l (x + n)).1, (run f l (x + n)).2) := by
  simp only [run]; rw [if_pos h, hd]
/-- Enough rounds are enough. -/
theorem run_fuel (l : List Int) : ∀ (f g x : Nat), l.length - x < f → l.length - x < g → run f l x = run g l x := by
  intro f
  induction f with
  | zero => intro g x h; omega
  | succ f ih =>
    intro g x hf hg
    obtain ⟨g, rfl⟩ : ∃ m, g = m + 1 := ⟨g - 1, by omega⟩
    by_cases hx : x < l.length
    · cases hd : decAt l x with
      | none => rw [run_bad hx hd, run_bad hx hd]
      | some p =>
        obtain ⟨v, n⟩ := p
        have hp := dec4_pos hd
        rw [run_step hx hd, run_step hx hd, ih g (x + n) (by omega) (by omega)]
    · rw [run_end (by omega), run_end (by omega)]
def runs (l : List Int) : List (Int × Int) × Option Int := run (l.length + 1) l 0
/-- A text that is a rune and more. -/
theorem run_count (l : List Int) : ∀ (f x : Nat), (run f l x).1.length ≤ l.length - x := by
  intro f
  induction f with
  | zero => intro x; simp [run]
  | succ f ih =>
    intro x
    by_cases hx : x < l.length
    · cases hd : decAt l x with
      | none => rw [run_bad hx hd]; simp
      | some p =>
        obtain ⟨v, n⟩ := p
        have hp := dec4_pos hd
        rw [run_step hx hd]
        have := ih (x + n)
        simp only [List.length_cons]; omega
    · rw [run_end (by omega)]; simp
end Go.Proofs.Ytipifdcamhmjaaa.Rn
