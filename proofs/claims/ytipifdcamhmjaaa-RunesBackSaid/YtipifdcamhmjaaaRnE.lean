/- Texts of runes cut in two and put together: plain mathematics. -/
import Derived.Test.YtipifdcamhmjaaaRn
namespace Go.Proofs.Ytipifdcamhmjaaa.Rn
open Go.Proofs.YtipifdcamhmjaaaW.PrintWords

def okl (r : List (Int × Int) × Option Int) : List (Int × Int) := match r.2 with
  | none => r.1
  | some _ => []
def bad (r : List (Int × Int) × Option Int) : Int := r.2.getD 0
def err (r : List (Int × Int) × Option Int) : Int := match r.2 with
  | none => 0
  | some _ => 2
theorem err_cases (r : List (Int × Int) × Option Int) : (err r = 0 ∧ r.2 = none ∧ okl r = r.1 ∧ bad r = 0) ∨ (err r = 2 ∧ okl r = [] ∧ ∃ b, r.2 = some b ∧ bad r = b) := by
  unfold err okl bad
  cases h : r.2 with
  | none => exact .inl ⟨rfl, rfl, rfl, rfl⟩
  | some b => exact .inr ⟨rfl, rfl, b, rfl, rfl⟩
/-- The places of runes are rising, from x on. -/
theorem run_places (l : List Int) : ∀ (f x : Nat) (i : Nat) (p : Int × Int), (run f l x).1[i]? = some p → (x : Int) ≤ p.1 ∧ p.1 < l.length := by
  intro f
  induction f with
  | zero => intro x i p h; simp [run] at h
  | succ f ih =>
    intro x i p h
    by_cases hx : x < l.length
    · cases hd : decAt l x with
      | none => rw [run_bad hx hd] at h; simp at h
      | some q =>
        obtain ⟨v, n⟩ := q
        have hp := dec4_pos hd
        rw [run_step hx hd] at h
        cases i with
        | zero =>
          simp only [List.getElem?_cons_zero, Option.some.injEq] at h
          subst h
          exact ⟨Int.le_refl _, by show (x : Int) < l.length; omega⟩
        | succ i =>
          simp only [List.getElem?_cons_succ] at h
          have := ih (x + n) i p h
          omega
    · rw [run_end (by omega)] at h; simp at h
/-- Of a text that is all runes a part that ends at a rune's begin is all runes; one that ends within a rune isn't; behind it likewise. -/
theorem cut_run (l : List Int) (at_ : Nat) (ha : at_ ≤ l.length) : ∀ (f x : Nat), x ≤ at_ → l.length - x < f → (run f l x).2 = none →
    ∃ j y : Nat, x ≤ y ∧ y ≤ at_ ∧ j ≤ (run f l x).1.length ∧ (run f l y).1 = (run f l x).1.drop j ∧ (run f l y).2 = none ∧
      run f (l.take at_) x = ((run f l x).1.take j, if y = at_ then none else some (y : Int)) ∧
      (y ≠ at_ → decAt (l.drop at_) 0 = none) ∧ (at_ < l.length → (run f l x).1[j]?.map Prod.fst = some (y : Int)) ∧
      (∀ i p, (run f l x).1[i]? = some p → (p.1 ≤ (at_ : Int) ↔ i ≤ j)) := by
  intro f
  induction f with
  | zero => intro x hx hf; omega
  | succ f ih =>
    intro x hx hf hr
    have hlt : (l.take at_).length = at_ := by rw [List.length_take]; omega
    by_cases hxa : x = at_
    · subst hxa
      refine ⟨0, x, Nat.le_refl _, Nat.le_refl _, Nat.zero_le _, rfl, hr, ?_, fun h => absurd rfl h, ?_, ?_⟩
      · rw [run_end (by omega), if_pos rfl]; rfl
      · intro hl
        cases hd : decAt l x with
        | none => rw [run_bad hl hd] at hr; simp at hr
        | some q =>
          obtain ⟨v, n⟩ := q
          rw [run_step hl hd]; rfl
      · intro i p hi
        by_cases hl : x < l.length
        · cases hd : decAt l x with
          | none => rw [run_bad hl hd] at hr; simp at hr
          | some q =>
            obtain ⟨v, n⟩ := q
            have hp := dec4_pos hd
            rw [run_step hl hd] at hi
            cases i with
            | zero =>
              simp only [List.getElem?_cons_zero, Option.some.injEq] at hi
              subst hi
              simp
            | succ i =>
              simp only [List.getElem?_cons_succ] at hi
              have := run_places l f (x + n) i p hi
              constructor <;> intro h <;> omega
        · rw [run_end (by omega)] at hi; simp at hi
    · have hxl : x < l.length := by omega
      cases hd : decAt l x with
      | none => rw [run_bad hxl hd] at hr; simp at hr
      | some q =>
        obtain ⟨v, n⟩ := q
        have hp := dec4_pos hd
        have hin := decAt_in hd
        have ht := dec4_tail hd
        rw [run_step hxl hd] at hr ⊢
        by_cases hf2 : x + n ≤ at_
        · obtain ⟨j, y, h1, h2, h3, h4, h5, h6, h7, h8, h9⟩ := ih (x + n) hf2 (by omega) hr
          have hyf : run (f + 1) l y = run f l y := run_fuel l _ _ _ (by omega) (by omega)
          have hda : decAt (l.take at_) x = some (v, n) := by
            unfold decAt at hd ⊢
            rw [gb_take_lt (by omega)]
            exact dec4_agree hd (fun h => gb_take_lt (by omega)) (fun h => gb_take_lt (by omega)) (fun h => gb_take_lt (by omega))
          refine ⟨j + 1, y, by omega, h2, by simp only [List.length_cons]; omega, ?_, by rw [hyf]; exact h5, ?_, h7, ?_, ?_⟩
          · rw [hyf, h4]; rfl
          · rw [run_step (by omega) hda, h6]; rfl
          · intro hl
            simp only [List.getElem?_cons_succ]
            exact h8 hl
          · intro i p hi
            cases i with
            | zero =>
              simp only [List.getElem?_cons_zero, Option.some.injEq] at hi
              subst hi
              simp; omega
            | succ i =>
              simp only [List.getElem?_cons_succ] at hi
              have := h9 i p hi
              rw [this]; omega
        · have hm : at_ - x < n := by omega
          have hc : Cn (gb l at_) := by
            have c : at_ = x + 1 ∨ at_ = x + 2 ∨ at_ = x + 3 := by omega
            rcases c with rfl | rfl | rfl
            · exact ht.1 (by omega)
            · exact ht.2.1 (by omega)
            · exact ht.2.2.1 (by omega)
          have hda : decAt (l.take at_) x = none := by
            unfold decAt at hd ⊢
            rw [gb_take_lt (by omega)]
            refine dec4_cut hd hm (by omega) ?_ ?_ ?_
            · intro h; exact gb_take_ge (by omega)
            · intro h; exact gb_take_ge (by omega)
            · intro h; exact gb_take_ge (by omega)
          refine ⟨0, x, Nat.le_refl _, hx, Nat.zero_le _, ?_, ?_, ?_, ?_, ?_, ?_⟩
          · rw [run_step hxl hd]; rfl
          · rw [run_step hxl hd]; exact hr
          · rw [run_bad (by omega) hda, if_neg hxa]; rfl
          · intro _
            rw [decAt_drop]
            exact dec4_cn hc
          · intro _; rfl
          · intro i p hi
            cases i with
            | zero =>
              simp only [List.getElem?_cons_zero, Option.some.injEq] at hi
              subst hi
              simp; omega
            | succ i =>
              simp only [List.getElem?_cons_succ] at hi
              have := run_places l f (x + n) i p hi
              constructor <;> intro h <;> omega
def shift (m : Int) (r : List (Int × Int)) : List (Int × Int) := r.map fun p => (p.1 + m, p.2)
/-- What stands behind a place, read for itself. -/
theorem run_drop (l : List Int) (m : Nat) : ∀ (f x : Nat), run f l (m + x) = (shift m (run f (l.drop m) x).1, (run f (l.drop m) x).2.map (· + (m : Int))) := by
  intro f
  induction f with
  | zero => intro x; rfl
  | succ f ih =>
    intro x
    by_cases hx : m + x < l.length
    · have hx' : x < (l.drop m).length := by rw [List.length_drop]; omega
      have e := decAt_drop l m x
      cases hd : decAt l (m + x) with
      | none =>
        rw [run_bad hx hd, run_bad hx' (by rw [e]; exact hd)]
        simp [shift]; omega
      | some q =>
        obtain ⟨v, n⟩ := q
        rw [run_step hx hd, run_step hx' (by rw [e]; exact hd), Nat.add_assoc, ih (x + n)]
        simp [shift]; omega
    · have hx' : ¬ x < (l.drop m).length := by rw [List.length_drop]; omega
      rw [run_end (by omega), run_end (by omega)]; rfl
/-- A text of runes, and another one behind it. -/
theorem run_append (l m : List Int) : ∀ (f g x : Nat), l.length - x < f → l.length + m.length - x < g → x ≤ l.length → (run f l x).2 = none →
    run g (l ++ m) x = ((run f l x).1 ++ shift l.length (runs m).1, (runs m).2.map (· + (l.length : Int))) := by
  intro f
  induction f with
  | zero => intro g x h; omega
  | succ f ih =>
    intro g x hf hg hx hr
    obtain ⟨g, rfl⟩ : ∃ k, g = k + 1 := ⟨g - 1, by omega⟩
    by_cases hxl : x < l.length
    · cases hd : decAt l x with
      | none => rw [run_bad hxl hd] at hr; simp at hr
      | some q =>
        obtain ⟨v, n⟩ := q
        have hp := dec4_pos hd
        have hin := decAt_in hd
        have hda : decAt (l ++ m) x = some (v, n) := by
          unfold decAt at hd ⊢
          rw [gb_append_lt (by omega)]
          exact dec4_agree hd (fun h => gb_append_lt (by omega)) (fun h => gb_append_lt (by omega)) (fun h => gb_append_lt (by omega))
        rw [run_step hxl hd] at hr ⊢
        rw [run_step (by rw [List.length_append]; omega) hda, ih g (x + n) (by omega) (by omega) (by omega) hr]
        rfl
    · have hxe : x = l.length := by omega
      subst hxe
      rw [run_end (Nat.le_refl _)]
      have this : run (g + 1) (l ++ m) l.length = _ := run_drop (l ++ m) l.length (g + 1) 0
      rw [this, List.drop_left]
      have e : run (g + 1) m 0 = runs m := run_fuel m _ _ _ (by omega) (by omega)
      rw [e]; rfl
theorem runs_append (l m : List Int) (hr : (runs l).2 = none) : runs (l ++ m) = ((runs l).1 ++ shift l.length (runs m).1, (runs m).2.map (· + (l.length : Int))) := by
  unfold runs at hr ⊢
  exact run_append l m _ _ 0 (by omega) (by rw [List.length_append]; omega) (Nat.zero_le _) hr
/-- What was encoded is runes, and these. -/
theorem run_enc (l : List Int) (h : ∀ r ∈ l, width r ≠ 0) : (runs (l.flatMap enc)).2 = none ∧ (runs (l.flatMap enc)).1.map Prod.snd = l := by
  induction l with
  | nil => exact ⟨rfl, rfl⟩
  | cons r l ih =>
    have hw := h r List.mem_cons_self
    have ih := ih (fun q hq => h q (List.mem_cons_of_mem _ hq))
    rw [List.flatMap_cons]
    have e1 : runs (enc r) = ([(0, r)], none) := by
      have hd := enc_dec4 r hw []
      rw [List.append_nil] at hd
      have hl := enc_length r
      unfold runs
      rw [run_step (by omega) hd, run_end (by omega)]; rfl
    rw [runs_append _ _ (by rw [e1]), e1]
    constructor
    · show Option.map _ (runs (l.flatMap enc)).2 = none
      rw [ih.1]; rfl
    · simp only [List.map_append, List.map_cons, List.map_nil, shift, List.map_map]
      have : (Prod.snd ∘ fun p : Int × Int => (p.1 + ((enc r).length : Int), p.2)) = Prod.snd := rfl
      rw [this, ih.2]; rfl
end Go.Proofs.Ytipifdcamhmjaaa.Rn
