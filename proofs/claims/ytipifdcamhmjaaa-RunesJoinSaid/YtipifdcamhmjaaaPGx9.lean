-- laid by this session (wip/printer), with functions proved by hand
import Derived.Test.YtipifdcamhmjaaaPGx0
import Derived.Test.YtipifdcamhmjaaaPGx1
import Derived.Test.YtipifdcamhmjaaaPGx2
import Derived.Test.YtipifdcamhmjaaaPGx3
namespace Go.Proofs.Ytipifdcamhmjaaa.PG
open Go.RowKit Go.Proofs.YtipifdcamhmjaaaW.PrintWords Go.Proofs.YtipifdcamhmjaaaW.PrintLast Go.Proofs.YtipifdcamhmjaaaW.PrintMore
attribute [local go_sem] max2_int min2_int max_two min_two max_three min_three max_four min_four   -- for this text's walks alone
set_option linter.unusedVariables false
set_option linter.unusedSimpArgs false

attribute [local go_sem high] eqA39
/-! ### carcanetlaw01_RunesJoin: function 9 -/
mutual
def carcanetlaw01_RunesJoin.j0 : Nat → ByteArray → Bool → List (S39) → List (S39) → List (S39) → Bool → Option (Bool)
  | 0, _, _, _, _, _, _ => none
  | k + 1, x0, x5, x6, x9, x12, x81 => if x81 = true then (some false) else (carcanetlaw01_RunesJoin.l0 k x0 x5 x6 x9 x12 0)
def carcanetlaw01_RunesJoin.l0 : Nat → ByteArray → Bool → List (S39) → List (S39) → List (S39) → Int → Option (Bool)
  | 0, _, _, _, _, _, _ => none
  | k + 1, x0, x5, x6, x9, x12, x15 => if x15 < (x12.length : Int) then (if x15 < (x6.length : Int) then (if 0 ≤ x15 then (if (!(((rd_T39 x12 x15).f0) == ((rd_T39 x6 x15).f0)) || (!(((rd_T39 x12 x15).f1) == ((rd_T39 x6 x15).f1)))) = true then (some false) else (if x15 ≥ (x6.length : Int) then (if 0 ≤ (wrap64 (x15 - (x6.length : Int))) then (if (wrap64 (x15 - (x6.length : Int))) < (x9.length : Int) then (if ((rd_T39 x12 x15).f1) = ((rd_T39 x9 (wrap64 (x15 - (x6.length : Int)))).f1) then (if ((rd_T39 x12 x15).f0) = (wrap64 (((rd_T39 x9 (wrap64 (x15 - (x6.length : Int)))).f0) + (x0.size : Int))) then (carcanetlaw01_RunesJoin.l0 k x0 x5 x6 x9 x12 (wrap64 (x15 + 1))) else (some false)) else (some false)) else (none)) else (none)) else (carcanetlaw01_RunesJoin.l0 k x0 x5 x6 x9 x12 (wrap64 (x15 + 1))))) else (none)) else (if x15 ≥ (x6.length : Int) then (if 0 ≤ x15 then (if 0 ≤ (wrap64 (x15 - (x6.length : Int))) then (if (wrap64 (x15 - (x6.length : Int))) < (x9.length : Int) then (if ((rd_T39 x12 x15).f1) = ((rd_T39 x9 (wrap64 (x15 - (x6.length : Int)))).f1) then (if ((rd_T39 x12 x15).f0) = (wrap64 (((rd_T39 x9 (wrap64 (x15 - (x6.length : Int)))).f0) + (x0.size : Int))) then (carcanetlaw01_RunesJoin.l0 k x0 x5 x6 x9 x12 (wrap64 (x15 + 1))) else (some false)) else (some false)) else (none)) else (none)) else (none)) else (carcanetlaw01_RunesJoin.l0 k x0 x5 x6 x9 x12 (wrap64 (x15 + 1))))) else (some x5)
end
def carcanetlaw01_RunesJoin.f (k : Nat) (a0 : ByteArray) (a1 : ByteArray) : Option (Bool) := (carcanetlaw01_shown.f k).bind fun t261 => (if 0 ≤ (mn (a0.size : Int) 1000) then (if (mn (a0.size : Int) 1000) ≤ (a0.size : Int) then (if 0 ≤ (mn (a1.size : Int) 1000) then (if (mn (a1.size : Int) 1000) ≤ (a1.size : Int) then ((runes_Decode.f k (a0.extract 0 ((mn (a0.size : Int) 1000) : Int).toNat)).bind fun bt262 => ((runes_Decode.f k (a1.extract 0 ((mn (a1.size : Int) 1000) : Int).toNat)).bind fun bt267 => (if bt262.2.2 = 0 then (if (a0.extract 0 ((mn (a0.size : Int) 1000) : Int).toNat).size + (a1.extract 0 ((mn (a1.size : Int) 1000) : Int).toNat).size ≤ 9223372036854775807 then ((runes_Decode.f k ((a0.extract 0 ((mn (a0.size : Int) 1000) : Int).toNat) ++ (a1.extract 0 ((mn (a1.size : Int) 1000) : Int).toNat))).bind fun bt272 => (if bt267.2.2 = 0 then (if bt272.2.2 = 0 then (carcanetlaw01_RunesJoin.j0 k (a0.extract 0 ((mn (a0.size : Int) 1000) : Int).toNat) t261 bt262.1 bt267.1 bt272.1 ((bt272.1.length : Int) != (wrap64 ((bt262.1.length : Int) + (bt267.1.length : Int))))) else (carcanetlaw01_RunesJoin.j0 k (a0.extract 0 ((mn (a0.size : Int) 1000) : Int).toNat) t261 bt262.1 bt267.1 bt272.1 true)) else (if t261 = true then (if bt272.2.2 = 2 then (if bt272.2.1 = (wrap64 (((a0.extract 0 ((mn (a0.size : Int) 1000) : Int).toNat).size : Int) + bt267.2.1)) then (some ((bt272.1.length : Int) == 0)) else (some false)) else (some false)) else (some false)))) else (none)) else (some t261)))) else (none)) else (none)) else (none)) else (none))
theorem carcanetlaw01_RunesJoin.mono_l : ∀ k, (∀ y0 y1 y2 y3 y4 y5, LeO (carcanetlaw01_RunesJoin.j0 k y0 y1 y2 y3 y4 y5) (carcanetlaw01_RunesJoin.j0 (k + 1) y0 y1 y2 y3 y4 y5)) ∧ (∀ y0 y1 y2 y3 y4 y5, LeO (carcanetlaw01_RunesJoin.l0 k y0 y1 y2 y3 y4 y5) (carcanetlaw01_RunesJoin.l0 (k + 1) y0 y1 y2 y3 y4 y5))
  | 0 => ⟨fun _ _ _ _ _ _ r h => by simp [carcanetlaw01_RunesJoin.j0] at h, fun _ _ _ _ _ _ r h => by simp [carcanetlaw01_RunesJoin.l0] at h⟩
  | k + 1 => by
    obtain ⟨ih0, ih1⟩ := carcanetlaw01_RunesJoin.mono_l k
    refine ⟨?_, ?_⟩
    · intro y0 y1 y2 y3 y4 y5
      unfold carcanetlaw01_RunesJoin.j0
      repeat' first
      | (with_reducible exact ih0 _ _ _ _ _ _)
      | (with_reducible exact ih1 _ _ _ _ _ _)
      | (with_reducible exact carcanetlaw01_shown.mono _)
      | (with_reducible exact runes_Decode.mono _ _)
      | (with_reducible exact LeO.refl _)
      | (with_reducible exact LeO.none _)
      | (with_reducible refine LeO.ite ?_ ?_)
      | (with_reducible refine LeO.bind ?_ (fun _ => ?_))
      | exact ih0 _ _ _ _ _ _
      | exact ih1 _ _ _ _ _ _
      | exact carcanetlaw01_shown.mono _
      | exact runes_Decode.mono _ _
      | exact LeO.none _
      | refine LeO.ite ?_ ?_
      | refine LeO.bind ?_ (fun _ => ?_)
    · intro y0 y1 y2 y3 y4 y5
      unfold carcanetlaw01_RunesJoin.l0
      repeat' first
      | (with_reducible exact ih0 _ _ _ _ _ _)
      | (with_reducible exact ih1 _ _ _ _ _ _)
      | (with_reducible exact carcanetlaw01_shown.mono _)
      | (with_reducible exact runes_Decode.mono _ _)
      | (with_reducible exact LeO.refl _)
      | (with_reducible exact LeO.none _)
      | (with_reducible refine LeO.ite ?_ ?_)
      | (with_reducible refine LeO.bind ?_ (fun _ => ?_))
      | exact ih0 _ _ _ _ _ _
      | exact ih1 _ _ _ _ _ _
      | exact carcanetlaw01_shown.mono _
      | exact runes_Decode.mono _ _
      | exact LeO.none _
      | refine LeO.ite ?_ ?_
      | refine LeO.bind ?_ (fun _ => ?_)
theorem carcanetlaw01_RunesJoin.mono : ∀ a0 a1 k, LeO (carcanetlaw01_RunesJoin.f k a0 a1) (carcanetlaw01_RunesJoin.f (k + 1) a0 a1) := by
  intro a0 a1 k
  obtain ⟨ih0, ih1⟩ := carcanetlaw01_RunesJoin.mono_l k
  unfold carcanetlaw01_RunesJoin.f
  repeat' first
      | (with_reducible exact ih0 _ _ _ _ _ _)
      | (with_reducible exact ih1 _ _ _ _ _ _)
      | (with_reducible exact carcanetlaw01_shown.mono _)
      | (with_reducible exact runes_Decode.mono _ _)
      | (with_reducible exact LeO.refl _)
      | (with_reducible exact LeO.none _)
      | (with_reducible refine LeO.ite ?_ ?_)
      | (with_reducible refine LeO.bind ?_ (fun _ => ?_))
      | exact ih0 _ _ _ _ _ _
      | exact ih1 _ _ _ _ _ _
      | exact carcanetlaw01_shown.mono _
      | exact runes_Decode.mono _ _
      | exact LeO.none _
      | refine LeO.ite ?_ ?_
      | refine LeO.bind ?_ (fun _ => ?_)
set_option maxHeartbeats 8000000 in
set_option maxRecDepth 100000 in
theorem carcanetlaw01_RunesJoin.calls (k : Nat) (a0 : ByteArray) (a1 : ByteArray) (r : Bool) (w : World) (h : carcanetlaw01_RunesJoin.f k a0 a1 = some r) :
    Calls Try.prog 9 #[.string a0, .string a1] w fun e w' => e = .returned (.bool r) ∧ Below w.heap.size w w' := by
  have hu39 := Try.underlying39
  have HB := Aside0.mk (Below.refl w.heap.size w)
  have H : ((carcanetlaw01_shown.f k).bind fun t261 => (if 0 ≤ (mn (a0.size : Int) 1000) then (if (mn (a0.size : Int) 1000) ≤ (a0.size : Int) then (if 0 ≤ (mn (a1.size : Int) 1000) then (if (mn (a1.size : Int) 1000) ≤ (a1.size : Int) then ((runes_Decode.f k (a0.extract 0 ((mn (a0.size : Int) 1000) : Int).toNat)).bind fun bt262 => ((runes_Decode.f k (a1.extract 0 ((mn (a1.size : Int) 1000) : Int).toNat)).bind fun bt267 => (if bt262.2.2 = 0 then (if (a0.extract 0 ((mn (a0.size : Int) 1000) : Int).toNat).size + (a1.extract 0 ((mn (a1.size : Int) 1000) : Int).toNat).size ≤ 9223372036854775807 then ((runes_Decode.f k ((a0.extract 0 ((mn (a0.size : Int) 1000) : Int).toNat) ++ (a1.extract 0 ((mn (a1.size : Int) 1000) : Int).toNat))).bind fun bt272 => (if bt267.2.2 = 0 then (if bt272.2.2 = 0 then (carcanetlaw01_RunesJoin.j0 k (a0.extract 0 ((mn (a0.size : Int) 1000) : Int).toNat) t261 bt262.1 bt267.1 bt272.1 ((bt272.1.length : Int) != (wrap64 ((bt262.1.length : Int) + (bt267.1.length : Int))))) else (carcanetlaw01_RunesJoin.j0 k (a0.extract 0 ((mn (a0.size : Int) 1000) : Int).toNat) t261 bt262.1 bt267.1 bt272.1 true)) else (if t261 = true then (if bt272.2.2 = 2 then (if bt272.2.1 = (wrap64 (((a0.extract 0 ((mn (a0.size : Int) 1000) : Int).toNat).size : Int) + bt267.2.1)) then (some ((bt272.1.length : Int) == 0)) else (some false)) else (some false)) else (some false)))) else (none)) else (some t261)))) else (none)) else (none)) else (none)) else (none))) = some r := h
  clear h
  replace H := Option.bind_eq_some_iff.mp H
  obtain ⟨t261, A30, H⟩ := H
  replace H : (if 0 ≤ (mn (a0.size : Int) 1000) then (if (mn (a0.size : Int) 1000) ≤ (a0.size : Int) then (if 0 ≤ (mn (a1.size : Int) 1000) then (if (mn (a1.size : Int) 1000) ≤ (a1.size : Int) then ((runes_Decode.f k (a0.extract 0 ((mn (a0.size : Int) 1000) : Int).toNat)).bind fun bt262 => ((runes_Decode.f k (a1.extract 0 ((mn (a1.size : Int) 1000) : Int).toNat)).bind fun bt267 => (if bt262.2.2 = 0 then (if (a0.extract 0 ((mn (a0.size : Int) 1000) : Int).toNat).size + (a1.extract 0 ((mn (a1.size : Int) 1000) : Int).toNat).size ≤ 9223372036854775807 then ((runes_Decode.f k ((a0.extract 0 ((mn (a0.size : Int) 1000) : Int).toNat) ++ (a1.extract 0 ((mn (a1.size : Int) 1000) : Int).toNat))).bind fun bt272 => (if bt267.2.2 = 0 then (if bt272.2.2 = 0 then (carcanetlaw01_RunesJoin.j0 k (a0.extract 0 ((mn (a0.size : Int) 1000) : Int).toNat) t261 bt262.1 bt267.1 bt272.1 ((bt272.1.length : Int) != (wrap64 ((bt262.1.length : Int) + (bt267.1.length : Int))))) else (carcanetlaw01_RunesJoin.j0 k (a0.extract 0 ((mn (a0.size : Int) 1000) : Int).toNat) t261 bt262.1 bt267.1 bt272.1 true)) else (if t261 = true then (if bt272.2.2 = 2 then (if bt272.2.1 = (wrap64 (((a0.extract 0 ((mn (a0.size : Int) 1000) : Int).toNat).size : Int) + bt267.2.1)) then (some ((bt272.1.length : Int) == 0)) else (some false)) else (some false)) else (some false)))) else (none)) else (some t261)))) else (none)) else (none)) else (none)) else (none)) = some r := H
  have A3 := Aside0.mk A30
  clear A30
  obtain ⟨ji4, hji4⟩ : ∃ j_ : Int, (mn (a0.size : Int) 1000) = j_ := ⟨_, rfl⟩
  replace H : (if 0 ≤ (ji4) then (if (ji4) ≤ (a0.size : Int) then (if 0 ≤ (mn (a1.size : Int) 1000) then (if (mn (a1.size : Int) 1000) ≤ (a1.size : Int) then ((runes_Decode.f k (a0.extract 0 ((ji4) : Int).toNat)).bind fun bt262 => ((runes_Decode.f k (a1.extract 0 ((mn (a1.size : Int) 1000) : Int).toNat)).bind fun bt267 => (if bt262.2.2 = 0 then (if (a0.extract 0 ((ji4) : Int).toNat).size + (a1.extract 0 ((mn (a1.size : Int) 1000) : Int).toNat).size ≤ 9223372036854775807 then ((runes_Decode.f k ((a0.extract 0 ((ji4) : Int).toNat) ++ (a1.extract 0 ((mn (a1.size : Int) 1000) : Int).toNat))).bind fun bt272 => (if bt267.2.2 = 0 then (if bt272.2.2 = 0 then (carcanetlaw01_RunesJoin.j0 k (a0.extract 0 ((ji4) : Int).toNat) t261 bt262.1 bt267.1 bt272.1 ((bt272.1.length : Int) != (wrap64 ((bt262.1.length : Int) + (bt267.1.length : Int))))) else (carcanetlaw01_RunesJoin.j0 k (a0.extract 0 ((ji4) : Int).toNat) t261 bt262.1 bt267.1 bt272.1 true)) else (if t261 = true then (if bt272.2.2 = 2 then (if bt272.2.1 = (wrap64 (((a0.extract 0 ((ji4) : Int).toNat).size : Int) + bt267.2.1)) then (some ((bt272.1.length : Int) == 0)) else (some false)) else (some false)) else (some false)))) else (none)) else (some t261)))) else (none)) else (none)) else (none)) else (none)) = some r := by first | (rw [hji4] at H; exact H) | (simp only [hji4] at H ⊢; exact H)
  (try rw [hji4] at A3)
  (try (have hji4h : ji4 ≤ 1000 := by (rw [← hji4]; unfold mn; (repeat' split) <;> omega)))
  (try (have hji4g : ji4 ≤ 64 := by omega))
  (try (have hji4l : 0 ≤ ji4 := by (rw [← hji4]; unfold mn; (repeat' split) <;> omega)))
  (try (have hji4m : 0 ≤ ji4 := by omega))
  have hji4_ : (if 1000 < (a0.size : Int) then 1000 else (a0.size : Int)) = ji4 := hji4
  by_cases c5 : 0 ≤ (ji4)
  · rw [if_pos c5] at H
    have c5b0 := eq_true c5
    have c5b1 : decide (0 ≤ (ji4)) = true := decide_eq_true c5
    clear c5
    by_cases c6 : (ji4) ≤ (a0.size : Int)
    · rw [if_pos c6] at H
      have c6b0 := eq_true c6
      have c6b1 : decide ((ji4) ≤ (a0.size : Int)) = true := decide_eq_true c6
      clear c6
      obtain ⟨sx4, hsx4⟩ : ∃ s_ : ByteArray, s_ = (a0.extract 0 ((ji4) : Int).toNat) := ⟨_, rfl⟩
      rw [← hsx4] at H
      have hsx4_ : a0.extract 0 ji4.toNat = sx4 := hsx4.symm
      clear hsx4
      obtain ⟨ji7, hji7⟩ : ∃ j_ : Int, (mn (a1.size : Int) 1000) = j_ := ⟨_, rfl⟩
      replace H : (if 0 ≤ (ji7) then (if (ji7) ≤ (a1.size : Int) then ((runes_Decode.f k sx4).bind fun bt262 => ((runes_Decode.f k (a1.extract 0 ((ji7) : Int).toNat)).bind fun bt267 => (if bt262.2.2 = 0 then (if sx4.size + (a1.extract 0 ((ji7) : Int).toNat).size ≤ 9223372036854775807 then ((runes_Decode.f k (sx4 ++ (a1.extract 0 ((ji7) : Int).toNat))).bind fun bt272 => (if bt267.2.2 = 0 then (if bt272.2.2 = 0 then (carcanetlaw01_RunesJoin.j0 k sx4 t261 bt262.1 bt267.1 bt272.1 ((bt272.1.length : Int) != (wrap64 ((bt262.1.length : Int) + (bt267.1.length : Int))))) else (carcanetlaw01_RunesJoin.j0 k sx4 t261 bt262.1 bt267.1 bt272.1 true)) else (if t261 = true then (if bt272.2.2 = 2 then (if bt272.2.1 = (wrap64 ((sx4.size : Int) + bt267.2.1)) then (some ((bt272.1.length : Int) == 0)) else (some false)) else (some false)) else (some false)))) else (none)) else (some t261)))) else (none)) else (none)) = some r := by first | (rw [hji7] at H; exact H) | (simp only [hji7] at H ⊢; exact H)
      (try rw [hji7] at A3)
      (try (have hji7h : ji7 ≤ 1000 := by (rw [← hji7]; unfold mn; (repeat' split) <;> omega)))
      (try (have hji7g : ji7 ≤ 64 := by omega))
      (try (have hji7l : 0 ≤ ji7 := by (rw [← hji7]; unfold mn; (repeat' split) <;> omega)))
      (try (have hji7m : 0 ≤ ji7 := by omega))
      have hji7_ : (if 1000 < (a1.size : Int) then 1000 else (a1.size : Int)) = ji7 := hji7
      by_cases c8 : 0 ≤ (ji7)
      · rw [if_pos c8] at H
        have c8b0 := eq_true c8
        have c8b1 : decide (0 ≤ (ji7)) = true := decide_eq_true c8
        clear c8
        by_cases c9 : (ji7) ≤ (a1.size : Int)
        · rw [if_pos c9] at H
          have c9b0 := eq_true c9
          have c9b1 : decide ((ji7) ≤ (a1.size : Int)) = true := decide_eq_true c9
          clear c9
          obtain ⟨sx7, hsx7⟩ : ∃ s_ : ByteArray, s_ = (a1.extract 0 ((ji7) : Int).toNat) := ⟨_, rfl⟩
          rw [← hsx7] at H
          have hsx7_ : a1.extract 0 ji7.toNat = sx7 := hsx7.symm
          clear hsx7
          replace H := Option.bind_eq_some_iff.mp H
          obtain ⟨⟨t262, t263, t264⟩, A100, H⟩ := H
          replace H : ((runes_Decode.f k sx7).bind fun bt267 => (if t264 = 0 then (if sx4.size + sx7.size ≤ 9223372036854775807 then ((runes_Decode.f k (sx4 ++ sx7)).bind fun bt272 => (if bt267.2.2 = 0 then (if bt272.2.2 = 0 then (carcanetlaw01_RunesJoin.j0 k sx4 t261 t262 bt267.1 bt272.1 ((bt272.1.length : Int) != (wrap64 ((t262.length : Int) + (bt267.1.length : Int))))) else (carcanetlaw01_RunesJoin.j0 k sx4 t261 t262 bt267.1 bt272.1 true)) else (if t261 = true then (if bt272.2.2 = 2 then (if bt272.2.1 = (wrap64 ((sx4.size : Int) + bt267.2.1)) then (some ((bt272.1.length : Int) == 0)) else (some false)) else (some false)) else (some false)))) else (none)) else (some t261))) = some r := H
          have A10 := Aside0.mk A100
          clear A100
          replace H := Option.bind_eq_some_iff.mp H
          obtain ⟨⟨t267, t268, t269⟩, A110, H⟩ := H
          replace H : (if t264 = 0 then (if sx4.size + sx7.size ≤ 9223372036854775807 then ((runes_Decode.f k (sx4 ++ sx7)).bind fun bt272 => (if t269 = 0 then (if bt272.2.2 = 0 then (carcanetlaw01_RunesJoin.j0 k sx4 t261 t262 t267 bt272.1 ((bt272.1.length : Int) != (wrap64 ((t262.length : Int) + (t267.length : Int))))) else (carcanetlaw01_RunesJoin.j0 k sx4 t261 t262 t267 bt272.1 true)) else (if t261 = true then (if bt272.2.2 = 2 then (if bt272.2.1 = (wrap64 ((sx4.size : Int) + t268)) then (some ((bt272.1.length : Int) == 0)) else (some false)) else (some false)) else (some false)))) else (none)) else (some t261)) = some r := H
          have A11 := Aside0.mk A110
          clear A110
          by_cases c12 : t264 = 0
          · rw [if_pos c12] at H
            have c12b0 : (t264 == 0) = true := beq_iff_eq.mpr c12
            have c12b1 : (t264 != 0) = false := bne_eq_false_iff_eq.mpr c12
            clear c12
            by_cases c13 : sx4.size + sx7.size ≤ 9223372036854775807
            · rw [if_pos c13] at H
              have c13b0 := eq_true c13
              have c13b1 : decide (sx4.size + sx7.size ≤ 9223372036854775807) = true := decide_eq_true c13
              try have c13b2 : (9223372036854775807 < sx4.size + sx7.size) = False := eq_false (Nat.not_lt.2 c13)
              replace H := Option.bind_eq_some_iff.mp H
              obtain ⟨⟨t272, t273, t274⟩, A140, H⟩ := H
              replace H : (if t269 = 0 then (if t274 = 0 then (carcanetlaw01_RunesJoin.j0 k sx4 t261 t262 t267 t272 ((t272.length : Int) != (wrap64 ((t262.length : Int) + (t267.length : Int))))) else (carcanetlaw01_RunesJoin.j0 k sx4 t261 t262 t267 t272 true)) else (if t261 = true then (if t274 = 2 then (if t273 = (wrap64 ((sx4.size : Int) + t268)) then (some ((t272.length : Int) == 0)) else (some false)) else (some false)) else (some false))) = some r := H
              have A14 := Aside0.mk A140
              clear A140
              by_cases c15 : t269 = 0
              · rw [if_pos c15] at H
                have c15b0 : (t269 == 0) = true := beq_iff_eq.mpr c15
                have c15b1 : (t269 != 0) = false := bne_eq_false_iff_eq.mpr c15
                clear c15
                have HC16 := Aside0.mk H
                clear H
                go_enter Try.func9, Try.ntmps9
                go_upto_region 11 with (first | (go_at_call 10; (with_reducible refine (carcanetlaw01_shown.calls k  t261 _ A3.out).mono ?_); rintro e w17 ⟨rfl, hb⟩; have n0_ := Aside0.mk (below_step (by repeat (first | (with_reducible first | exact HB.out | apply below_alloc | apply pw_below_drewN | apply below_drew1) | exact HB.out)) hb); clear HB; have HB := n0_; clear n0_; (try clear hb); (try clear hb2); (try clear hk); (try clear hi)) | (go_at_call 11; (with_reducible refine (runes_Decode.calls k sx4 t262 t263 t264 _ A10.out).mono ?_); rintro e w18 ⟨v265, rfl, ho0, hb⟩; have n0_ := Aside0.mk (Kd.R_lower ho0 (below_size (by repeat (first | (with_reducible first | exact HB.out | apply below_alloc | apply pw_below_drewN | apply below_drew1) | exact HB.out)))); have n1_ := Aside0.mk (below_step (by repeat (first | (with_reducible first | exact HB.out | apply below_alloc | apply pw_below_drewN | apply below_drew1) | exact HB.out)) hb); clear HB; have HO266 := n0_; have HB := n1_; clear n0_ n1_; (try clear hb); (try clear hb2); (try clear hk); (try clear hi); (try clear ho0)) | (go_at_call 11; (with_reducible refine (runes_Decode.calls k sx7 t267 t268 t269 _ A11.out).mono ?_); rintro e w19 ⟨v270, rfl, ho0, hb⟩; have n0_ := Aside0.mk (Kd.R_elder' (by (with_reducible repeat (first | apply Kd.R_alloc | apply Kd.R_drewN | apply Kd.R_drew)); exact HO266.out) (Kd.R_base ho0) hb); have n1_ := Aside0.mk (Kd.R_lower (Kd.R_new' ho0 (Kd.R_lt (by (with_reducible repeat (first | apply Kd.R_alloc | apply Kd.R_drewN | apply Kd.R_drew)); exact HO266.out))) (below_size (by repeat (first | (with_reducible first | exact HB.out | apply below_alloc | apply pw_below_drewN | apply below_drew1) | exact HB.out)))); have n2_ := Aside0.mk (below_step (by repeat (first | (with_reducible first | exact HB.out | apply below_alloc | apply pw_below_drewN | apply below_drew1) | exact HB.out)) hb); clear HO266; clear HB; have HO266 := n0_; have HO271 := n1_; have HB := n2_; clear n0_ n1_ n2_; (try clear hb); (try clear hb2); (try clear hk); (try clear hi); (try clear ho0)) | (go_at_call 11; (with_reducible refine (runes_Decode.calls k (sx4 ++ sx7) t272 t273 t274 _ A14.out).mono ?_); rintro e w20 ⟨v275, rfl, ho0, hb⟩; have n0_ := Aside0.mk (Kd.R_elder' (by (with_reducible repeat (first | apply Kd.R_alloc | apply Kd.R_drewN | apply Kd.R_drew)); exact HO266.out) (Kd.R_base ho0) hb); have n1_ := Aside0.mk (Kd.R_elder' (by (with_reducible repeat (first | apply Kd.R_alloc | apply Kd.R_drewN | apply Kd.R_drew)); exact HO271.out) (Kd.R_base ho0) hb); have n2_ := Aside0.mk (Kd.R_lower (Kd.R_new' (Kd.R_new' ho0 (Kd.R_lt (by (with_reducible repeat (first | apply Kd.R_alloc | apply Kd.R_drewN | apply Kd.R_drew)); exact HO266.out))) (Kd.R_lt (by (with_reducible repeat (first | apply Kd.R_alloc | apply Kd.R_drewN | apply Kd.R_drew)); exact HO271.out))) (below_size (by repeat (first | (with_reducible first | exact HB.out | apply below_alloc | apply pw_below_drewN | apply below_drew1) | exact HB.out)))); have n3_ := Aside0.mk (below_step (by repeat (first | (with_reducible first | exact HB.out | apply below_alloc | apply pw_below_drewN | apply below_drew1) | exact HB.out)) hb); clear HO266; clear HO271; clear HB; have HO266 := n0_; have HO271 := n1_; have HO276 := n2_; have HB := n3_; clear n0_ n1_ n2_ n3_; (try clear hb); (try clear hb2); (try clear hk); (try clear hi); (try clear ho0)))
                repeat (go_quiet (first | (go_at_call 10; (with_reducible refine (carcanetlaw01_shown.calls k  t261 _ A3.out).mono ?_); rintro e w17 ⟨rfl, hb⟩; have n0_ := Aside0.mk (below_step (by repeat (first | (with_reducible first | exact HB.out | apply below_alloc | apply pw_below_drewN | apply below_drew1) | exact HB.out)) hb); clear HB; have HB := n0_; clear n0_; (try clear hb); (try clear hb2); (try clear hk); (try clear hi)) | (go_at_call 11; (with_reducible refine (runes_Decode.calls k sx4 t262 t263 t264 _ A10.out).mono ?_); rintro e w18 ⟨v265, rfl, ho0, hb⟩; have n0_ := Aside0.mk (Kd.R_lower ho0 (below_size (by repeat (first | (with_reducible first | exact HB.out | apply below_alloc | apply pw_below_drewN | apply below_drew1) | exact HB.out)))); have n1_ := Aside0.mk (below_step (by repeat (first | (with_reducible first | exact HB.out | apply below_alloc | apply pw_below_drewN | apply below_drew1) | exact HB.out)) hb); clear HB; have HO266 := n0_; have HB := n1_; clear n0_ n1_; (try clear hb); (try clear hb2); (try clear hk); (try clear hi); (try clear ho0)) | (go_at_call 11; (with_reducible refine (runes_Decode.calls k sx7 t267 t268 t269 _ A11.out).mono ?_); rintro e w19 ⟨v270, rfl, ho0, hb⟩; have n0_ := Aside0.mk (Kd.R_elder' (by (with_reducible repeat (first | apply Kd.R_alloc | apply Kd.R_drewN | apply Kd.R_drew)); exact HO266.out) (Kd.R_base ho0) hb); have n1_ := Aside0.mk (Kd.R_lower (Kd.R_new' ho0 (Kd.R_lt (by (with_reducible repeat (first | apply Kd.R_alloc | apply Kd.R_drewN | apply Kd.R_drew)); exact HO266.out))) (below_size (by repeat (first | (with_reducible first | exact HB.out | apply below_alloc | apply pw_below_drewN | apply below_drew1) | exact HB.out)))); have n2_ := Aside0.mk (below_step (by repeat (first | (with_reducible first | exact HB.out | apply below_alloc | apply pw_below_drewN | apply below_drew1) | exact HB.out)) hb); clear HO266; clear HB; have HO266 := n0_; have HO271 := n1_; have HB := n2_; clear n0_ n1_ n2_; (try clear hb); (try clear hb2); (try clear hk); (try clear hi); (try clear ho0)) | (go_at_call 11; (with_reducible refine (runes_Decode.calls k (sx4 ++ sx7) t272 t273 t274 _ A14.out).mono ?_); rintro e w20 ⟨v275, rfl, ho0, hb⟩; have n0_ := Aside0.mk (Kd.R_elder' (by (with_reducible repeat (first | apply Kd.R_alloc | apply Kd.R_drewN | apply Kd.R_drew)); exact HO266.out) (Kd.R_base ho0) hb); have n1_ := Aside0.mk (Kd.R_elder' (by (with_reducible repeat (first | apply Kd.R_alloc | apply Kd.R_drewN | apply Kd.R_drew)); exact HO271.out) (Kd.R_base ho0) hb); have n2_ := Aside0.mk (Kd.R_lower (Kd.R_new' (Kd.R_new' ho0 (Kd.R_lt (by (with_reducible repeat (first | apply Kd.R_alloc | apply Kd.R_drewN | apply Kd.R_drew)); exact HO266.out))) (Kd.R_lt (by (with_reducible repeat (first | apply Kd.R_alloc | apply Kd.R_drewN | apply Kd.R_drew)); exact HO271.out))) (below_size (by repeat (first | (with_reducible first | exact HB.out | apply below_alloc | apply pw_below_drewN | apply below_drew1) | exact HB.out)))); have n3_ := Aside0.mk (below_step (by repeat (first | (with_reducible first | exact HB.out | apply below_alloc | apply pw_below_drewN | apply below_drew1) | exact HB.out)) hb); clear HO266; clear HO271; clear HB; have HO266 := n0_; have HO271 := n1_; have HO276 := n2_; have HB := n3_; clear n0_ n1_ n2_ n3_; (try clear hb); (try clear hb2); (try clear hk); (try clear hi); (try clear ho0))); go_upto_region 11 with (first | (go_at_call 10; (with_reducible refine (carcanetlaw01_shown.calls k  t261 _ A3.out).mono ?_); rintro e w17 ⟨rfl, hb⟩; have n0_ := Aside0.mk (below_step (by repeat (first | (with_reducible first | exact HB.out | apply below_alloc | apply pw_below_drewN | apply below_drew1) | exact HB.out)) hb); clear HB; have HB := n0_; clear n0_; (try clear hb); (try clear hb2); (try clear hk); (try clear hi)) | (go_at_call 11; (with_reducible refine (runes_Decode.calls k sx4 t262 t263 t264 _ A10.out).mono ?_); rintro e w18 ⟨v265, rfl, ho0, hb⟩; have n0_ := Aside0.mk (Kd.R_lower ho0 (below_size (by repeat (first | (with_reducible first | exact HB.out | apply below_alloc | apply pw_below_drewN | apply below_drew1) | exact HB.out)))); have n1_ := Aside0.mk (below_step (by repeat (first | (with_reducible first | exact HB.out | apply below_alloc | apply pw_below_drewN | apply below_drew1) | exact HB.out)) hb); clear HB; have HO266 := n0_; have HB := n1_; clear n0_ n1_; (try clear hb); (try clear hb2); (try clear hk); (try clear hi); (try clear ho0)) | (go_at_call 11; (with_reducible refine (runes_Decode.calls k sx7 t267 t268 t269 _ A11.out).mono ?_); rintro e w19 ⟨v270, rfl, ho0, hb⟩; have n0_ := Aside0.mk (Kd.R_elder' (by (with_reducible repeat (first | apply Kd.R_alloc | apply Kd.R_drewN | apply Kd.R_drew)); exact HO266.out) (Kd.R_base ho0) hb); have n1_ := Aside0.mk (Kd.R_lower (Kd.R_new' ho0 (Kd.R_lt (by (with_reducible repeat (first | apply Kd.R_alloc | apply Kd.R_drewN | apply Kd.R_drew)); exact HO266.out))) (below_size (by repeat (first | (with_reducible first | exact HB.out | apply below_alloc | apply pw_below_drewN | apply below_drew1) | exact HB.out)))); have n2_ := Aside0.mk (below_step (by repeat (first | (with_reducible first | exact HB.out | apply below_alloc | apply pw_below_drewN | apply below_drew1) | exact HB.out)) hb); clear HO266; clear HB; have HO266 := n0_; have HO271 := n1_; have HB := n2_; clear n0_ n1_ n2_; (try clear hb); (try clear hb2); (try clear hk); (try clear hi); (try clear ho0)) | (go_at_call 11; (with_reducible refine (runes_Decode.calls k (sx4 ++ sx7) t272 t273 t274 _ A14.out).mono ?_); rintro e w20 ⟨v275, rfl, ho0, hb⟩; have n0_ := Aside0.mk (Kd.R_elder' (by (with_reducible repeat (first | apply Kd.R_alloc | apply Kd.R_drewN | apply Kd.R_drew)); exact HO266.out) (Kd.R_base ho0) hb); have n1_ := Aside0.mk (Kd.R_elder' (by (with_reducible repeat (first | apply Kd.R_alloc | apply Kd.R_drewN | apply Kd.R_drew)); exact HO271.out) (Kd.R_base ho0) hb); have n2_ := Aside0.mk (Kd.R_lower (Kd.R_new' (Kd.R_new' ho0 (Kd.R_lt (by (with_reducible repeat (first | apply Kd.R_alloc | apply Kd.R_drewN | apply Kd.R_drew)); exact HO266.out))) (Kd.R_lt (by (with_reducible repeat (first | apply Kd.R_alloc | apply Kd.R_drewN | apply Kd.R_drew)); exact HO271.out))) (below_size (by repeat (first | (with_reducible first | exact HB.out | apply below_alloc | apply pw_below_drewN | apply below_drew1) | exact HB.out)))); have n3_ := Aside0.mk (below_step (by repeat (first | (with_reducible first | exact HB.out | apply below_alloc | apply pw_below_drewN | apply below_drew1) | exact HB.out)) hb); clear HO266; clear HO271; clear HB; have HO266 := n0_; have HO271 := n1_; have HO276 := n2_; have HB := n3_; clear n0_ n1_ n2_ n3_; (try clear hb); (try clear hb2); (try clear hk); (try clear hi); (try clear ho0))))
                (try simp only [Act.put, List.setIfInBounds_toArray, List.set_cons_zero, List.set_cons_succ])
                go_cut [81] (fun v81 wc => ∃ (kq : Nat) (x81_15 : Bool), v81 = .bool x81_15 ∧ Aside0 (carcanetlaw01_RunesJoin.j0 kq sx4 t261 t262 t267 t272 x81_15 = some r) ∧ Aside0 (kq ≤ k) ∧ Aside0 (Kd.R k39 39 wc w.heap.size (fun k_ => some k_ ≠ (v270 : Value).ownBlock ∧ some k_ ≠ (v275 : Value).ownBlock) v265 t262) ∧ Aside0 (Kd.R k39 39 wc w.heap.size (fun k_ => some k_ ≠ (v265 : Value).ownBlock ∧ some k_ ≠ (v275 : Value).ownBlock) v270 t267) ∧ Aside0 (Kd.R k39 39 wc w.heap.size (fun k_ => some k_ ≠ (v265 : Value).ownBlock ∧ some k_ ≠ (v270 : Value).ownBlock) v275 t272) ∧ Aside0 (Below w.heap.size w wc))
                case first =>
                  have H := HC16.out
                  clear HC16
                  by_cases c21 : t274 = 0
                  · rw [if_pos c21] at H
                    have c21b0 : (t274 == 0) = true := beq_iff_eq.mpr c21
                    have c21b1 : (t274 != 0) = false := bne_eq_false_iff_eq.mpr c21
                    clear c21
                    (first | rw [c21b0] | (simp only [i64_w, i32_w]; rw [c21b0]) | skip)
                    have H' := Aside0.mk H
                    clear H
                    obtain ⟨Ao22, co22, eo22⟩ := Kd.R_slice HO276.out
                    subst eo22
                    obtain ⟨Ao23, co23, eo23⟩ := Kd.R_slice HO266.out
                    subst eo23
                    obtain ⟨Ao24, co24, eo24⟩ := Kd.R_slice HO271.out
                    subst eo24
                    go_wp2
                    repeat (go_quiet (fail); try go_wp2)
                    go_meet
                    case rel => exact ⟨_, (((t272.length : Int) != (wrap64 ((t262.length : Int) + (t267.length : Int))))), (by first | rfl | (simp; done) | (simp [*]; done)), H', ⟨by first | omega | exact Nat.le_refl _⟩, ⟨by (with_reducible repeat (first | apply Kd.R_alloc | apply Kd.R_drewN | apply Kd.R_drew)); exact Kd.R_mono HO266.out (fun _ hk => ⟨hk.1.2, hk.2⟩)⟩, ⟨by (with_reducible repeat (first | apply Kd.R_alloc | apply Kd.R_drewN | apply Kd.R_drew)); exact Kd.R_mono HO271.out (fun _ hk => ⟨hk.1.2, hk.2⟩)⟩, ⟨by (with_reducible repeat (first | apply Kd.R_alloc | apply Kd.R_drewN | apply Kd.R_drew)); exact Kd.R_mono HO276.out (fun _ hk => ⟨hk.1.2, hk.2⟩)⟩, ⟨by repeat (first | (with_reducible first | exact HB.out | apply below_alloc | apply pw_below_drewN | apply below_drew1) | exact HB.out)⟩⟩
                  · rw [if_neg c21] at H
                    have c21b0 : (t274 == 0) = false := beq_eq_false_iff_ne.mpr c21
                    have c21b1 : (t274 != 0) = true := bne_iff_ne.mpr c21
                    (first | rw [c21b0] | (simp only [i64_w, i32_w]; rw [c21b0]) | skip)
                    have H' := Aside0.mk H
                    clear H
                    go_wp2
                    repeat (go_quiet (fail); try go_wp2)
                    go_meet
                    case rel => exact ⟨_, (true), (by first | rfl | (simp; done) | (simp [*]; done)), H', ⟨by first | omega | exact Nat.le_refl _⟩, ⟨by (with_reducible repeat (first | apply Kd.R_alloc | apply Kd.R_drewN | apply Kd.R_drew)); exact Kd.R_mono HO266.out (fun _ hk => ⟨hk.1.2, hk.2⟩)⟩, ⟨by (with_reducible repeat (first | apply Kd.R_alloc | apply Kd.R_drewN | apply Kd.R_drew)); exact Kd.R_mono HO271.out (fun _ hk => ⟨hk.1.2, hk.2⟩)⟩, ⟨by (with_reducible repeat (first | apply Kd.R_alloc | apply Kd.R_drewN | apply Kd.R_drew)); exact Kd.R_mono HO276.out (fun _ hk => ⟨hk.1.2, hk.2⟩)⟩, ⟨by repeat (first | (with_reducible first | exact HB.out | apply below_alloc | apply pw_below_drewN | apply below_drew1) | exact HB.out)⟩⟩
                case rest =>
                  clear HC16
                  try clear c1
                  try clear c2
                  try clear p2
                  try clear c5
                  try clear c5b0
                  try clear c5b1
                  try clear c6
                  try clear c6b0
                  try clear c6b1
                  try clear p6
                  try clear c8
                  try clear c8b0
                  try clear c8b1
                  try clear c9
                  try clear c9b0
                  try clear c9b1
                  try clear c12
                  try clear c12b0
                  try clear c12b1
                  try clear c13
                  try clear c13b0
                  try clear c13b1
                  try clear c13b2
                  try clear c15
                  try clear c15b0
                  try clear c15b1
                  try clear c21
                  try clear c21b0
                  try clear c21b1
                  obtain ⟨kq, x81_15, rfl, HA, HJ15, HO_6, HO_9, HO_12, HB⟩ := hcut
                  cases kq with
                  | zero => exact absurd HA.out (by simp [carcanetlaw01_RunesJoin.j0])
                  | succ kj15 =>
                    have H := HA.out
                    clear HA
                    simp only [carcanetlaw01_RunesJoin.j0] at H
                    by_cases c25 : x81_15 = true
                    · subst c25
                      have H1 : (some false) = some r := by rw [if_pos rfl] at H; exact H
                      clear H
                      have H := H1
                      clear H1
                      obtain rfl := Option.some.inj H
                      go_wp2
                      repeat (go_quiet (fail); try go_wp2)
                      go_ret
                      exact ⟨by first | rfl | (simp [errW_none, errW_some] <;> rfl) | (simp only [← hji4, ← hji7]; first | rfl | (simp [errW_none, errW_some] <;> rfl)) | (simp [*, errW_none, errW_some] <;> rfl), by repeat (first | (with_reducible first | exact HB.out | apply below_alloc | apply pw_below_drewN | apply below_drew1) | exact HB.out)⟩
                    · replace c25 := Bool.eq_false_iff.mpr c25
                      subst c25
                      have H1 : (carcanetlaw01_RunesJoin.l0 kj15 sx4 t261 t262 t267 t272 0) = some r := by rw [if_neg (show ¬ (false = true) by decide)] at H; exact H
                      clear H
                      have H := H1
                      clear H1
                      have H' := Aside0.mk H
                      clear H
                      go_wp2
                      repeat (go_quiet (fail); try go_wp2)
                      go_loopg [15] kj15 (fun kq v15 w' => ∃ (x15_2 : Int), v15 = .int .i64 x15_2 ∧ Aside0 (carcanetlaw01_RunesJoin.l0 kq sx4 t261 t262 t267 t272 x15_2 = some r) ∧ Aside0 (kq ≤ kj15) ∧ Aside0 (Kd.R k39 39 w' w.heap.size (fun k_ => some k_ ≠ (v270 : Value).ownBlock ∧ some k_ ≠ (v275 : Value).ownBlock) v265 t262) ∧ Aside0 (Kd.R k39 39 w' w.heap.size (fun k_ => some k_ ≠ (v265 : Value).ownBlock ∧ some k_ ≠ (v275 : Value).ownBlock) v270 t267) ∧ Aside0 (Kd.R k39 39 w' w.heap.size (fun k_ => some k_ ≠ (v265 : Value).ownBlock ∧ some k_ ≠ (v270 : Value).ownBlock) v275 t272) ∧ Aside0 (Below w.heap.size w w'))
                      case atStart => exact ⟨(0), (by first | rfl | (simp; done) | (simp [*]; done)), H', ⟨Nat.le_refl _⟩, ⟨by (with_reducible repeat (first | apply Kd.R_alloc | apply Kd.R_drewN | apply Kd.R_drew)); exact HO_6.out⟩, ⟨by (with_reducible repeat (first | apply Kd.R_alloc | apply Kd.R_drewN | apply Kd.R_drew)); exact HO_9.out⟩, ⟨by (with_reducible repeat (first | apply Kd.R_alloc | apply Kd.R_drewN | apply Kd.R_drew)); exact HO_12.out⟩, ⟨by repeat (first | (with_reducible first | exact HB.out | apply below_alloc | apply pw_below_drewN | apply below_drew1) | exact HB.out)⟩⟩
                      case round =>
                        clear H'
                        try clear c1
                        try clear c2
                        try clear p2
                        try clear c5
                        try clear c5b0
                        try clear c5b1
                        try clear c6
                        try clear c6b0
                        try clear c6b1
                        try clear p6
                        try clear c8
                        try clear c8b0
                        try clear c8b1
                        try clear c9
                        try clear c9b0
                        try clear c9b1
                        try clear c12
                        try clear c12b0
                        try clear c12b1
                        try clear c13
                        try clear c13b0
                        try clear c13b1
                        try clear c13b2
                        try clear c15
                        try clear c15b0
                        try clear c15b1
                        try clear c21
                        try clear c21b0
                        try clear c21b1
                        try clear c25
                        try clear p2
                        try clear p6
                        obtain ⟨x15_2, rfl, HA, HK2, HO_6, HO_9, HO_12, HB⟩ := hrel
                        cases gk with
                        | zero => exact absurd HA.out (by simp [carcanetlaw01_RunesJoin.l0])
                        | succ k2 =>
                          have H := HA.out
                          clear HA
                          simp only [carcanetlaw01_RunesJoin.l0] at H
                          by_cases c26 : x15_2 < (t272.length : Int)
                          · rw [if_pos c26] at H
                            have c26b0 : decide (x15_2 < (t272.length : Int)) = true := decide_eq_true c26
                            clear c26
                            by_cases c27 : x15_2 < (t262.length : Int)
                            · rw [if_pos c27] at H
                              have c27b0 : decide (x15_2 < (t262.length : Int)) = true := decide_eq_true c27
                              clear c27
                              by_cases c28 : 0 ≤ x15_2
                              · rw [if_pos c28] at H
                                have c28b0 : decide (0 ≤ x15_2) = true := decide_eq_true c28
                                clear c28
                                by_cases c29 : (!(((rd_T39 t272 x15_2).f0) == ((rd_T39 t262 x15_2).f0)) || (!(((rd_T39 t272 x15_2).f1) == ((rd_T39 t262 x15_2).f1)))) = true
                                · rw [if_pos c29] at H
                                  have c29b0 : (!(((rd_T39 t272 x15_2).f0) == ((rd_T39 t262 x15_2).f0)) || (!(((rd_T39 t272 x15_2).f1) == ((rd_T39 t262 x15_2).f1)))) = true := c29
                                  clear c29
                                  obtain rfl := Option.some.inj H
                                  obtain ⟨Ao30, co30, eo30⟩ := Kd.R_slice HO_12.out
                                  subst eo30
                                  obtain ⟨Ao31, co31, eo31⟩ := Kd.R_slice HO_6.out
                                  subst eo31
                                  have p277 : 0 ≤ (x15_2 : Int) := of_decide_eq_true (by first | (with_reducible assumption) | assumption)
                                  have q277 : x15_2 < (t272.length : Int) := of_decide_eq_true (by first | (with_reducible assumption) | assumption)
                                  obtain ⟨ad277, e277, hx277_0, hx277_1⟩ := at_T39 (Kd.R_reads' HO_12.out).2.2 x15_2 p277 q277
                                  cases e277
                                  replace p277 := eq_true p277
                                  replace q277 := eq_true q277
                                  have p278 : 0 ≤ (x15_2 : Int) := of_decide_eq_true (by first | (with_reducible assumption) | assumption)
                                  have q278 : x15_2 < (t262.length : Int) := of_decide_eq_true (by first | (with_reducible assumption) | assumption)
                                  obtain ⟨ad278, e278, hx278_0, hx278_1⟩ := at_T39 (Kd.R_reads' HO_6.out).2.2 x15_2 p278 q278
                                  cases e278
                                  replace p278 := eq_true p278
                                  replace q278 := eq_true q278
                                  go_wp2
                                  repeat (go_quiet (fail); try go_wp2)
                                  go_ret
                                  exact ⟨by first | rfl | (simp [errW_none, errW_some] <;> rfl) | (simp only [← hji4, ← hji7]; first | rfl | (simp [errW_none, errW_some] <;> rfl)) | (simp [*, errW_none, errW_some] <;> rfl), by repeat (first | (with_reducible first | exact HB.out | apply below_alloc | apply pw_below_drewN | apply below_drew1) | exact HB.out)⟩
                                · rw [if_neg c29] at H
                                  have c29b0 : (!(((rd_T39 t272 x15_2).f0) == ((rd_T39 t262 x15_2).f0)) || (!(((rd_T39 t272 x15_2).f1) == ((rd_T39 t262 x15_2).f1)))) = false := by simpa using c29
                                  clear c29
                                  by_cases c32 : x15_2 ≥ (t262.length : Int)
                                  · rw [if_pos c32] at H
                                    have c32b0 : decide ((t262.length : Int) ≤ x15_2) = true := decide_eq_true c32
                                    clear c32
                                    obtain ⟨ji33, hji33⟩ : ∃ j_ : Int, (wrap64 (x15_2 - (t262.length : Int))) = j_ := ⟨_, rfl⟩
                                    replace H : (if 0 ≤ (ji33) then (if (ji33) < (t267.length : Int) then (if ((rd_T39 t272 x15_2).f1) = ((rd_T39 t267 (ji33)).f1) then (if ((rd_T39 t272 x15_2).f0) = (wrap64 (((rd_T39 t267 (ji33)).f0) + (sx4.size : Int))) then (carcanetlaw01_RunesJoin.l0 k2 sx4 t261 t262 t267 t272 (wrap64 (x15_2 + 1))) else (some false)) else (some false)) else (none)) else (none)) = some r := by first | (rw [hji33] at H; exact H) | (simp only [hji33] at H ⊢; exact H)
                                    have hji33w : (IntKind.i64.wrap (x15_2 - (t262.length : Int))) = ji33 := (i64_w _).trans hji33
                                    by_cases c34 : 0 ≤ (ji33)
                                    · rw [if_pos c34] at H
                                      have c34b0 : decide (0 ≤ (ji33)) = true := decide_eq_true c34
                                      clear c34
                                      by_cases c35 : (ji33) < (t267.length : Int)
                                      · rw [if_pos c35] at H
                                        have c35b0 : decide ((ji33) < (t267.length : Int)) = true := decide_eq_true c35
                                        clear c35
                                        by_cases c36 : ((rd_T39 t272 x15_2).f1) = ((rd_T39 t267 (ji33)).f1)
                                        · rw [if_pos c36] at H
                                          have c36b0 : (((rd_T39 t272 x15_2).f1) == ((rd_T39 t267 (ji33)).f1)) = true := beq_iff_eq.mpr c36
                                          have c36b1 : (((rd_T39 t272 x15_2).f1) != ((rd_T39 t267 (ji33)).f1)) = false := bne_eq_false_iff_eq.mpr c36
                                          clear c36
                                          by_cases c37 : ((rd_T39 t272 x15_2).f0) = (wrap64 (((rd_T39 t267 (ji33)).f0) + (sx4.size : Int)))
                                          · rw [if_pos c37] at H
                                            have c37b0 : (((rd_T39 t272 x15_2).f0) == (wrap64 (((rd_T39 t267 (ji33)).f0) + (sx4.size : Int)))) = true := beq_iff_eq.mpr c37
                                            have c37b1 : (((rd_T39 t272 x15_2).f0) != (wrap64 (((rd_T39 t267 (ji33)).f0) + (sx4.size : Int)))) = false := bne_eq_false_iff_eq.mpr c37
                                            clear c37
                                            have H' := Aside0.mk H
                                            clear H
                                            obtain ⟨Ao38, co38, eo38⟩ := Kd.R_slice HO_12.out
                                            subst eo38
                                            obtain ⟨Ao39, co39, eo39⟩ := Kd.R_slice HO_6.out
                                            subst eo39
                                            have p277 : 0 ≤ (x15_2 : Int) := of_decide_eq_true (by first | (with_reducible assumption) | assumption)
                                            have q277 : x15_2 < (t272.length : Int) := of_decide_eq_true (by first | (with_reducible assumption) | assumption)
                                            obtain ⟨ad277, e277, hx277_0, hx277_1⟩ := at_T39 (Kd.R_reads' HO_12.out).2.2 x15_2 p277 q277
                                            cases e277
                                            replace p277 := eq_true p277
                                            replace q277 := eq_true q277
                                            have p278 : 0 ≤ (x15_2 : Int) := of_decide_eq_true (by first | (with_reducible assumption) | assumption)
                                            have q278 : x15_2 < (t262.length : Int) := of_decide_eq_true (by first | (with_reducible assumption) | assumption)
                                            obtain ⟨ad278, e278, hx278_0, hx278_1⟩ := at_T39 (Kd.R_reads' HO_6.out).2.2 x15_2 p278 q278
                                            cases e278
                                            replace p278 := eq_true p278
                                            replace q278 := eq_true q278
                                            have p279 : 0 ≤ (x15_2 : Int) := of_decide_eq_true (by first | (with_reducible assumption) | assumption)
                                            have q279 : x15_2 < (t272.length : Int) := of_decide_eq_true (by first | (with_reducible assumption) | assumption)
                                            obtain ⟨ad279, e279, hx279_0, hx279_1⟩ := at_T39 (Kd.R_reads' HO_12.out).2.2 x15_2 p279 q279
                                            obtain rfl : ad277 = ad279 := (by injection e279)
                                            replace p279 := eq_true p279
                                            replace q279 := eq_true q279
                                            obtain ⟨Ao40, co40, eo40⟩ := Kd.R_slice HO_9.out
                                            subst eo40
                                            have p280 : 0 ≤ ((ji33) : Int) := of_decide_eq_true (by first | (with_reducible assumption) | assumption)
                                            have q280 : (ji33) < (t267.length : Int) := of_decide_eq_true (by first | (with_reducible assumption) | assumption)
                                            obtain ⟨ad280, e280, hx280_0, hx280_1⟩ := at_T39 (Kd.R_reads' HO_9.out).2.2 (ji33) p280 q280
                                            cases e280
                                            replace p280 := eq_true p280
                                            replace q280 := eq_true q280
                                            have p281 : 0 ≤ (x15_2 : Int) := of_decide_eq_true (by first | (with_reducible assumption) | assumption)
                                            have q281 : x15_2 < (t272.length : Int) := of_decide_eq_true (by first | (with_reducible assumption) | assumption)
                                            obtain ⟨ad281, e281, hx281_0, hx281_1⟩ := at_T39 (Kd.R_reads' HO_12.out).2.2 x15_2 p281 q281
                                            obtain rfl : ad277 = ad281 := (by injection e281)
                                            replace p281 := eq_true p281
                                            replace q281 := eq_true q281
                                            have p282 : 0 ≤ ((ji33) : Int) := of_decide_eq_true (by first | (with_reducible assumption) | assumption)
                                            have q282 : (ji33) < (t267.length : Int) := of_decide_eq_true (by first | (with_reducible assumption) | assumption)
                                            obtain ⟨ad282, e282, hx282_0, hx282_1⟩ := at_T39 (Kd.R_reads' HO_9.out).2.2 (ji33) p282 q282
                                            obtain rfl : ad280 = ad282 := (by injection e282)
                                            replace p282 := eq_true p282
                                            replace q282 := eq_true q282
                                            go_wp2
                                            repeat (go_quiet (fail); try go_wp2)
                                            go_roundg k2
                                            case measure => have := HJ15.out; have := HK2.out; omega
                                            case rel => exact ⟨(wrap64 (x15_2 + 1)), (by first | rfl | (simp; done) | (simp [*]; done)), H', ⟨by have := HJ15.out; have := HK2.out; omega⟩, ⟨by (with_reducible repeat (first | apply Kd.R_alloc | apply Kd.R_drewN | apply Kd.R_drew)); exact HO_6.out⟩, ⟨by (with_reducible repeat (first | apply Kd.R_alloc | apply Kd.R_drewN | apply Kd.R_drew)); exact HO_9.out⟩, ⟨by (with_reducible repeat (first | apply Kd.R_alloc | apply Kd.R_drewN | apply Kd.R_drew)); exact HO_12.out⟩, ⟨by repeat (first | (with_reducible first | exact HB.out | apply below_alloc | apply pw_below_drewN | apply below_drew1) | exact HB.out)⟩⟩
                                          · rw [if_neg c37] at H
                                            have c37b0 : (((rd_T39 t272 x15_2).f0) == (wrap64 (((rd_T39 t267 (ji33)).f0) + (sx4.size : Int)))) = false := beq_eq_false_iff_ne.mpr c37
                                            have c37b1 : (((rd_T39 t272 x15_2).f0) != (wrap64 (((rd_T39 t267 (ji33)).f0) + (sx4.size : Int)))) = true := bne_iff_ne.mpr c37
                                            obtain rfl := Option.some.inj H
                                            obtain ⟨Ao41, co41, eo41⟩ := Kd.R_slice HO_12.out
                                            subst eo41
                                            obtain ⟨Ao42, co42, eo42⟩ := Kd.R_slice HO_6.out
                                            subst eo42
                                            have p277 : 0 ≤ (x15_2 : Int) := of_decide_eq_true (by first | (with_reducible assumption) | assumption)
                                            have q277 : x15_2 < (t272.length : Int) := of_decide_eq_true (by first | (with_reducible assumption) | assumption)
                                            obtain ⟨ad277, e277, hx277_0, hx277_1⟩ := at_T39 (Kd.R_reads' HO_12.out).2.2 x15_2 p277 q277
                                            cases e277
                                            replace p277 := eq_true p277
                                            replace q277 := eq_true q277
                                            have p278 : 0 ≤ (x15_2 : Int) := of_decide_eq_true (by first | (with_reducible assumption) | assumption)
                                            have q278 : x15_2 < (t262.length : Int) := of_decide_eq_true (by first | (with_reducible assumption) | assumption)
                                            obtain ⟨ad278, e278, hx278_0, hx278_1⟩ := at_T39 (Kd.R_reads' HO_6.out).2.2 x15_2 p278 q278
                                            cases e278
                                            replace p278 := eq_true p278
                                            replace q278 := eq_true q278
                                            have p279 : 0 ≤ (x15_2 : Int) := of_decide_eq_true (by first | (with_reducible assumption) | assumption)
                                            have q279 : x15_2 < (t272.length : Int) := of_decide_eq_true (by first | (with_reducible assumption) | assumption)
                                            obtain ⟨ad279, e279, hx279_0, hx279_1⟩ := at_T39 (Kd.R_reads' HO_12.out).2.2 x15_2 p279 q279
                                            obtain rfl : ad277 = ad279 := (by injection e279)
                                            replace p279 := eq_true p279
                                            replace q279 := eq_true q279
                                            obtain ⟨Ao43, co43, eo43⟩ := Kd.R_slice HO_9.out
                                            subst eo43
                                            have p280 : 0 ≤ ((ji33) : Int) := of_decide_eq_true (by first | (with_reducible assumption) | assumption)
                                            have q280 : (ji33) < (t267.length : Int) := of_decide_eq_true (by first | (with_reducible assumption) | assumption)
                                            obtain ⟨ad280, e280, hx280_0, hx280_1⟩ := at_T39 (Kd.R_reads' HO_9.out).2.2 (ji33) p280 q280
                                            cases e280
                                            replace p280 := eq_true p280
                                            replace q280 := eq_true q280
                                            have p281 : 0 ≤ (x15_2 : Int) := of_decide_eq_true (by first | (with_reducible assumption) | assumption)
                                            have q281 : x15_2 < (t272.length : Int) := of_decide_eq_true (by first | (with_reducible assumption) | assumption)
                                            obtain ⟨ad281, e281, hx281_0, hx281_1⟩ := at_T39 (Kd.R_reads' HO_12.out).2.2 x15_2 p281 q281
                                            obtain rfl : ad277 = ad281 := (by injection e281)
                                            replace p281 := eq_true p281
                                            replace q281 := eq_true q281
                                            have p282 : 0 ≤ ((ji33) : Int) := of_decide_eq_true (by first | (with_reducible assumption) | assumption)
                                            have q282 : (ji33) < (t267.length : Int) := of_decide_eq_true (by first | (with_reducible assumption) | assumption)
                                            obtain ⟨ad282, e282, hx282_0, hx282_1⟩ := at_T39 (Kd.R_reads' HO_9.out).2.2 (ji33) p282 q282
                                            obtain rfl : ad280 = ad282 := (by injection e282)
                                            replace p282 := eq_true p282
                                            replace q282 := eq_true q282
                                            go_wp2
                                            repeat (go_quiet (fail); try go_wp2)
                                            go_ret
                                            exact ⟨by first | rfl | (simp [errW_none, errW_some] <;> rfl) | (simp only [← hji4, ← hji7, ← hji33]; first | rfl | (simp [errW_none, errW_some] <;> rfl)) | (simp [*, errW_none, errW_some] <;> rfl), by repeat (first | (with_reducible first | exact HB.out | apply below_alloc | apply pw_below_drewN | apply below_drew1) | exact HB.out)⟩
                                        · rw [if_neg c36] at H
                                          have c36b0 : (((rd_T39 t272 x15_2).f1) == ((rd_T39 t267 (ji33)).f1)) = false := beq_eq_false_iff_ne.mpr c36
                                          have c36b1 : (((rd_T39 t272 x15_2).f1) != ((rd_T39 t267 (ji33)).f1)) = true := bne_iff_ne.mpr c36
                                          obtain rfl := Option.some.inj H
                                          obtain ⟨Ao44, co44, eo44⟩ := Kd.R_slice HO_12.out
                                          subst eo44
                                          obtain ⟨Ao45, co45, eo45⟩ := Kd.R_slice HO_6.out
                                          subst eo45
                                          have p277 : 0 ≤ (x15_2 : Int) := of_decide_eq_true (by first | (with_reducible assumption) | assumption)
                                          have q277 : x15_2 < (t272.length : Int) := of_decide_eq_true (by first | (with_reducible assumption) | assumption)
                                          obtain ⟨ad277, e277, hx277_0, hx277_1⟩ := at_T39 (Kd.R_reads' HO_12.out).2.2 x15_2 p277 q277
                                          cases e277
                                          replace p277 := eq_true p277
                                          replace q277 := eq_true q277
                                          have p278 : 0 ≤ (x15_2 : Int) := of_decide_eq_true (by first | (with_reducible assumption) | assumption)
                                          have q278 : x15_2 < (t262.length : Int) := of_decide_eq_true (by first | (with_reducible assumption) | assumption)
                                          obtain ⟨ad278, e278, hx278_0, hx278_1⟩ := at_T39 (Kd.R_reads' HO_6.out).2.2 x15_2 p278 q278
                                          cases e278
                                          replace p278 := eq_true p278
                                          replace q278 := eq_true q278
                                          have p279 : 0 ≤ (x15_2 : Int) := of_decide_eq_true (by first | (with_reducible assumption) | assumption)
                                          have q279 : x15_2 < (t272.length : Int) := of_decide_eq_true (by first | (with_reducible assumption) | assumption)
                                          obtain ⟨ad279, e279, hx279_0, hx279_1⟩ := at_T39 (Kd.R_reads' HO_12.out).2.2 x15_2 p279 q279
                                          obtain rfl : ad277 = ad279 := (by injection e279)
                                          replace p279 := eq_true p279
                                          replace q279 := eq_true q279
                                          obtain ⟨Ao46, co46, eo46⟩ := Kd.R_slice HO_9.out
                                          subst eo46
                                          have p280 : 0 ≤ ((ji33) : Int) := of_decide_eq_true (by first | (with_reducible assumption) | assumption)
                                          have q280 : (ji33) < (t267.length : Int) := of_decide_eq_true (by first | (with_reducible assumption) | assumption)
                                          obtain ⟨ad280, e280, hx280_0, hx280_1⟩ := at_T39 (Kd.R_reads' HO_9.out).2.2 (ji33) p280 q280
                                          cases e280
                                          replace p280 := eq_true p280
                                          replace q280 := eq_true q280
                                          go_wp2
                                          repeat (go_quiet (fail); try go_wp2)
                                          go_ret
                                          exact ⟨by first | rfl | (simp [errW_none, errW_some] <;> rfl) | (simp only [← hji4, ← hji7, ← hji33]; first | rfl | (simp [errW_none, errW_some] <;> rfl)) | (simp [*, errW_none, errW_some] <;> rfl), by repeat (first | (with_reducible first | exact HB.out | apply below_alloc | apply pw_below_drewN | apply below_drew1) | exact HB.out)⟩
                                      · rw [if_neg c35] at H
                                        exact absurd H (by simp)
                                    · rw [if_neg c34] at H
                                      exact absurd H (by simp)
                                  · rw [if_neg c32] at H
                                    have c32b0 : decide ((t262.length : Int) ≤ x15_2) = false := decide_eq_false c32
                                    clear c32
                                    have H' := Aside0.mk H
                                    clear H
                                    obtain ⟨Ao47, co47, eo47⟩ := Kd.R_slice HO_12.out
                                    subst eo47
                                    obtain ⟨Ao48, co48, eo48⟩ := Kd.R_slice HO_6.out
                                    subst eo48
                                    have p277 : 0 ≤ (x15_2 : Int) := of_decide_eq_true (by first | (with_reducible assumption) | assumption)
                                    have q277 : x15_2 < (t272.length : Int) := of_decide_eq_true (by first | (with_reducible assumption) | assumption)
                                    obtain ⟨ad277, e277, hx277_0, hx277_1⟩ := at_T39 (Kd.R_reads' HO_12.out).2.2 x15_2 p277 q277
                                    cases e277
                                    replace p277 := eq_true p277
                                    replace q277 := eq_true q277
                                    have p278 : 0 ≤ (x15_2 : Int) := of_decide_eq_true (by first | (with_reducible assumption) | assumption)
                                    have q278 : x15_2 < (t262.length : Int) := of_decide_eq_true (by first | (with_reducible assumption) | assumption)
                                    obtain ⟨ad278, e278, hx278_0, hx278_1⟩ := at_T39 (Kd.R_reads' HO_6.out).2.2 x15_2 p278 q278
                                    cases e278
                                    replace p278 := eq_true p278
                                    replace q278 := eq_true q278
                                    go_wp2
                                    repeat (go_quiet (fail); try go_wp2)
                                    go_roundg k2
                                    case measure => have := HJ15.out; have := HK2.out; omega
                                    case rel => exact ⟨(wrap64 (x15_2 + 1)), (by first | rfl | (simp; done) | (simp [*]; done)), H', ⟨by have := HJ15.out; have := HK2.out; omega⟩, ⟨by (with_reducible repeat (first | apply Kd.R_alloc | apply Kd.R_drewN | apply Kd.R_drew)); exact HO_6.out⟩, ⟨by (with_reducible repeat (first | apply Kd.R_alloc | apply Kd.R_drewN | apply Kd.R_drew)); exact HO_9.out⟩, ⟨by (with_reducible repeat (first | apply Kd.R_alloc | apply Kd.R_drewN | apply Kd.R_drew)); exact HO_12.out⟩, ⟨by repeat (first | (with_reducible first | exact HB.out | apply below_alloc | apply pw_below_drewN | apply below_drew1) | exact HB.out)⟩⟩
                              · rw [if_neg c28] at H
                                exact absurd H (by simp)
                            · rw [if_neg c27] at H
                              have c27b0 : decide (x15_2 < (t262.length : Int)) = false := decide_eq_false c27
                              clear c27
                              by_cases c49 : x15_2 ≥ (t262.length : Int)
                              · rw [if_pos c49] at H
                                have c49b0 : decide ((t262.length : Int) ≤ x15_2) = true := decide_eq_true c49
                                clear c49
                                by_cases c50 : 0 ≤ x15_2
                                · rw [if_pos c50] at H
                                  have c50b0 : decide (0 ≤ x15_2) = true := decide_eq_true c50
                                  clear c50
                                  obtain ⟨ji51, hji51⟩ : ∃ j_ : Int, (wrap64 (x15_2 - (t262.length : Int))) = j_ := ⟨_, rfl⟩
                                  replace H : (if 0 ≤ (ji51) then (if (ji51) < (t267.length : Int) then (if ((rd_T39 t272 x15_2).f1) = ((rd_T39 t267 (ji51)).f1) then (if ((rd_T39 t272 x15_2).f0) = (wrap64 (((rd_T39 t267 (ji51)).f0) + (sx4.size : Int))) then (carcanetlaw01_RunesJoin.l0 k2 sx4 t261 t262 t267 t272 (wrap64 (x15_2 + 1))) else (some false)) else (some false)) else (none)) else (none)) = some r := by first | (rw [hji51] at H; exact H) | (simp only [hji51] at H ⊢; exact H)
                                  have hji51w : (IntKind.i64.wrap (x15_2 - (t262.length : Int))) = ji51 := (i64_w _).trans hji51
                                  by_cases c52 : 0 ≤ (ji51)
                                  · rw [if_pos c52] at H
                                    have c52b0 : decide (0 ≤ (ji51)) = true := decide_eq_true c52
                                    clear c52
                                    by_cases c53 : (ji51) < (t267.length : Int)
                                    · rw [if_pos c53] at H
                                      have c53b0 : decide ((ji51) < (t267.length : Int)) = true := decide_eq_true c53
                                      clear c53
                                      by_cases c54 : ((rd_T39 t272 x15_2).f1) = ((rd_T39 t267 (ji51)).f1)
                                      · rw [if_pos c54] at H
                                        have c54b0 : (((rd_T39 t272 x15_2).f1) == ((rd_T39 t267 (ji51)).f1)) = true := beq_iff_eq.mpr c54
                                        have c54b1 : (((rd_T39 t272 x15_2).f1) != ((rd_T39 t267 (ji51)).f1)) = false := bne_eq_false_iff_eq.mpr c54
                                        clear c54
                                        by_cases c55 : ((rd_T39 t272 x15_2).f0) = (wrap64 (((rd_T39 t267 (ji51)).f0) + (sx4.size : Int)))
                                        · rw [if_pos c55] at H
                                          have c55b0 : (((rd_T39 t272 x15_2).f0) == (wrap64 (((rd_T39 t267 (ji51)).f0) + (sx4.size : Int)))) = true := beq_iff_eq.mpr c55
                                          have c55b1 : (((rd_T39 t272 x15_2).f0) != (wrap64 (((rd_T39 t267 (ji51)).f0) + (sx4.size : Int)))) = false := bne_eq_false_iff_eq.mpr c55
                                          clear c55
                                          have H' := Aside0.mk H
                                          clear H
                                          obtain ⟨Ao56, co56, eo56⟩ := Kd.R_slice HO_12.out
                                          subst eo56
                                          obtain ⟨Ao57, co57, eo57⟩ := Kd.R_slice HO_6.out
                                          subst eo57
                                          have p283 : 0 ≤ (x15_2 : Int) := of_decide_eq_true (by first | (with_reducible assumption) | assumption)
                                          have q283 : x15_2 < (t272.length : Int) := of_decide_eq_true (by first | (with_reducible assumption) | assumption)
                                          obtain ⟨ad283, e283, hx283_0, hx283_1⟩ := at_T39 (Kd.R_reads' HO_12.out).2.2 x15_2 p283 q283
                                          cases e283
                                          replace p283 := eq_true p283
                                          replace q283 := eq_true q283
                                          obtain ⟨Ao58, co58, eo58⟩ := Kd.R_slice HO_9.out
                                          subst eo58
                                          have p284 : 0 ≤ ((ji51) : Int) := of_decide_eq_true (by first | (with_reducible assumption) | assumption)
                                          have q284 : (ji51) < (t267.length : Int) := of_decide_eq_true (by first | (with_reducible assumption) | assumption)
                                          obtain ⟨ad284, e284, hx284_0, hx284_1⟩ := at_T39 (Kd.R_reads' HO_9.out).2.2 (ji51) p284 q284
                                          cases e284
                                          replace p284 := eq_true p284
                                          replace q284 := eq_true q284
                                          have p285 : 0 ≤ (x15_2 : Int) := of_decide_eq_true (by first | (with_reducible assumption) | assumption)
                                          have q285 : x15_2 < (t272.length : Int) := of_decide_eq_true (by first | (with_reducible assumption) | assumption)
                                          obtain ⟨ad285, e285, hx285_0, hx285_1⟩ := at_T39 (Kd.R_reads' HO_12.out).2.2 x15_2 p285 q285
                                          obtain rfl : ad283 = ad285 := (by injection e285)
                                          replace p285 := eq_true p285
                                          replace q285 := eq_true q285
                                          have p286 : 0 ≤ ((ji51) : Int) := of_decide_eq_true (by first | (with_reducible assumption) | assumption)
                                          have q286 : (ji51) < (t267.length : Int) := of_decide_eq_true (by first | (with_reducible assumption) | assumption)
                                          obtain ⟨ad286, e286, hx286_0, hx286_1⟩ := at_T39 (Kd.R_reads' HO_9.out).2.2 (ji51) p286 q286
                                          obtain rfl : ad284 = ad286 := (by injection e286)
                                          replace p286 := eq_true p286
                                          replace q286 := eq_true q286
                                          go_wp2
                                          repeat (go_quiet (fail); try go_wp2)
                                          go_roundg k2
                                          case measure => have := HJ15.out; have := HK2.out; omega
                                          case rel => exact ⟨(wrap64 (x15_2 + 1)), (by first | rfl | (simp; done) | (simp [*]; done)), H', ⟨by have := HJ15.out; have := HK2.out; omega⟩, ⟨by (with_reducible repeat (first | apply Kd.R_alloc | apply Kd.R_drewN | apply Kd.R_drew)); exact HO_6.out⟩, ⟨by (with_reducible repeat (first | apply Kd.R_alloc | apply Kd.R_drewN | apply Kd.R_drew)); exact HO_9.out⟩, ⟨by (with_reducible repeat (first | apply Kd.R_alloc | apply Kd.R_drewN | apply Kd.R_drew)); exact HO_12.out⟩, ⟨by repeat (first | (with_reducible first | exact HB.out | apply below_alloc | apply pw_below_drewN | apply below_drew1) | exact HB.out)⟩⟩
                                        · rw [if_neg c55] at H
                                          have c55b0 : (((rd_T39 t272 x15_2).f0) == (wrap64 (((rd_T39 t267 (ji51)).f0) + (sx4.size : Int)))) = false := beq_eq_false_iff_ne.mpr c55
                                          have c55b1 : (((rd_T39 t272 x15_2).f0) != (wrap64 (((rd_T39 t267 (ji51)).f0) + (sx4.size : Int)))) = true := bne_iff_ne.mpr c55
                                          obtain rfl := Option.some.inj H
                                          obtain ⟨Ao59, co59, eo59⟩ := Kd.R_slice HO_12.out
                                          subst eo59
                                          obtain ⟨Ao60, co60, eo60⟩ := Kd.R_slice HO_6.out
                                          subst eo60
                                          have p283 : 0 ≤ (x15_2 : Int) := of_decide_eq_true (by first | (with_reducible assumption) | assumption)
                                          have q283 : x15_2 < (t272.length : Int) := of_decide_eq_true (by first | (with_reducible assumption) | assumption)
                                          obtain ⟨ad283, e283, hx283_0, hx283_1⟩ := at_T39 (Kd.R_reads' HO_12.out).2.2 x15_2 p283 q283
                                          cases e283
                                          replace p283 := eq_true p283
                                          replace q283 := eq_true q283
                                          obtain ⟨Ao61, co61, eo61⟩ := Kd.R_slice HO_9.out
                                          subst eo61
                                          have p284 : 0 ≤ ((ji51) : Int) := of_decide_eq_true (by first | (with_reducible assumption) | assumption)
                                          have q284 : (ji51) < (t267.length : Int) := of_decide_eq_true (by first | (with_reducible assumption) | assumption)
                                          obtain ⟨ad284, e284, hx284_0, hx284_1⟩ := at_T39 (Kd.R_reads' HO_9.out).2.2 (ji51) p284 q284
                                          cases e284
                                          replace p284 := eq_true p284
                                          replace q284 := eq_true q284
                                          have p285 : 0 ≤ (x15_2 : Int) := of_decide_eq_true (by first | (with_reducible assumption) | assumption)
                                          have q285 : x15_2 < (t272.length : Int) := of_decide_eq_true (by first | (with_reducible assumption) | assumption)
                                          obtain ⟨ad285, e285, hx285_0, hx285_1⟩ := at_T39 (Kd.R_reads' HO_12.out).2.2 x15_2 p285 q285
                                          obtain rfl : ad283 = ad285 := (by injection e285)
                                          replace p285 := eq_true p285
                                          replace q285 := eq_true q285
                                          have p286 : 0 ≤ ((ji51) : Int) := of_decide_eq_true (by first | (with_reducible assumption) | assumption)
                                          have q286 : (ji51) < (t267.length : Int) := of_decide_eq_true (by first | (with_reducible assumption) | assumption)
                                          obtain ⟨ad286, e286, hx286_0, hx286_1⟩ := at_T39 (Kd.R_reads' HO_9.out).2.2 (ji51) p286 q286
                                          obtain rfl : ad284 = ad286 := (by injection e286)
                                          replace p286 := eq_true p286
                                          replace q286 := eq_true q286
                                          go_wp2
                                          repeat (go_quiet (fail); try go_wp2)
                                          go_ret
                                          exact ⟨by first | rfl | (simp [errW_none, errW_some] <;> rfl) | (simp only [← hji4, ← hji7, ← hji51]; first | rfl | (simp [errW_none, errW_some] <;> rfl)) | (simp [*, errW_none, errW_some] <;> rfl), by repeat (first | (with_reducible first | exact HB.out | apply below_alloc | apply pw_below_drewN | apply below_drew1) | exact HB.out)⟩
                                      · rw [if_neg c54] at H
                                        have c54b0 : (((rd_T39 t272 x15_2).f1) == ((rd_T39 t267 (ji51)).f1)) = false := beq_eq_false_iff_ne.mpr c54
                                        have c54b1 : (((rd_T39 t272 x15_2).f1) != ((rd_T39 t267 (ji51)).f1)) = true := bne_iff_ne.mpr c54
                                        obtain rfl := Option.some.inj H
                                        obtain ⟨Ao62, co62, eo62⟩ := Kd.R_slice HO_12.out
                                        subst eo62
                                        obtain ⟨Ao63, co63, eo63⟩ := Kd.R_slice HO_6.out
                                        subst eo63
                                        have p283 : 0 ≤ (x15_2 : Int) := of_decide_eq_true (by first | (with_reducible assumption) | assumption)
                                        have q283 : x15_2 < (t272.length : Int) := of_decide_eq_true (by first | (with_reducible assumption) | assumption)
                                        obtain ⟨ad283, e283, hx283_0, hx283_1⟩ := at_T39 (Kd.R_reads' HO_12.out).2.2 x15_2 p283 q283
                                        cases e283
                                        replace p283 := eq_true p283
                                        replace q283 := eq_true q283
                                        obtain ⟨Ao64, co64, eo64⟩ := Kd.R_slice HO_9.out
                                        subst eo64
                                        have p284 : 0 ≤ ((ji51) : Int) := of_decide_eq_true (by first | (with_reducible assumption) | assumption)
                                        have q284 : (ji51) < (t267.length : Int) := of_decide_eq_true (by first | (with_reducible assumption) | assumption)
                                        obtain ⟨ad284, e284, hx284_0, hx284_1⟩ := at_T39 (Kd.R_reads' HO_9.out).2.2 (ji51) p284 q284
                                        cases e284
                                        replace p284 := eq_true p284
                                        replace q284 := eq_true q284
                                        go_wp2
                                        repeat (go_quiet (fail); try go_wp2)
                                        go_ret
                                        exact ⟨by first | rfl | (simp [errW_none, errW_some] <;> rfl) | (simp only [← hji4, ← hji7, ← hji51]; first | rfl | (simp [errW_none, errW_some] <;> rfl)) | (simp [*, errW_none, errW_some] <;> rfl), by repeat (first | (with_reducible first | exact HB.out | apply below_alloc | apply pw_below_drewN | apply below_drew1) | exact HB.out)⟩
                                    · rw [if_neg c53] at H
                                      exact absurd H (by simp)
                                  · rw [if_neg c52] at H
                                    exact absurd H (by simp)
                                · rw [if_neg c50] at H
                                  exact absurd H (by simp)
                              · rw [if_neg c49] at H
                                have c49b0 : decide ((t262.length : Int) ≤ x15_2) = false := decide_eq_false c49
                                clear c49
                                have H' := Aside0.mk H
                                clear H
                                obtain ⟨Ao65, co65, eo65⟩ := Kd.R_slice HO_12.out
                                subst eo65
                                obtain ⟨Ao66, co66, eo66⟩ := Kd.R_slice HO_6.out
                                subst eo66
                                go_wp2
                                repeat (go_quiet (fail); try go_wp2)
                                go_roundg k2
                                case measure => have := HJ15.out; have := HK2.out; omega
                                case rel => exact ⟨(wrap64 (x15_2 + 1)), (by first | rfl | (simp; done) | (simp [*]; done)), H', ⟨by have := HJ15.out; have := HK2.out; omega⟩, ⟨by (with_reducible repeat (first | apply Kd.R_alloc | apply Kd.R_drewN | apply Kd.R_drew)); exact HO_6.out⟩, ⟨by (with_reducible repeat (first | apply Kd.R_alloc | apply Kd.R_drewN | apply Kd.R_drew)); exact HO_9.out⟩, ⟨by (with_reducible repeat (first | apply Kd.R_alloc | apply Kd.R_drewN | apply Kd.R_drew)); exact HO_12.out⟩, ⟨by repeat (first | (with_reducible first | exact HB.out | apply below_alloc | apply pw_below_drewN | apply below_drew1) | exact HB.out)⟩⟩
                          · rw [if_neg c26] at H
                            have c26b0 : decide (x15_2 < (t272.length : Int)) = false := decide_eq_false c26
                            clear c26
                            obtain rfl := Option.some.inj H
                            obtain ⟨Ao67, co67, eo67⟩ := Kd.R_slice HO_12.out
                            subst eo67
                            go_wp2
                            repeat (go_quiet (fail); try go_wp2)
                            go_ret
                            exact ⟨by first | rfl | (simp [errW_none, errW_some] <;> rfl) | (simp only [← hji4, ← hji7]; first | rfl | (simp [errW_none, errW_some] <;> rfl)) | (simp [*, errW_none, errW_some] <;> rfl), by repeat (first | (with_reducible first | exact HB.out | apply below_alloc | apply pw_below_drewN | apply below_drew1) | exact HB.out)⟩
              · rw [if_neg c15] at H
                have c15b0 : (t269 == 0) = false := beq_eq_false_iff_ne.mpr c15
                have c15b1 : (t269 != 0) = true := bne_iff_ne.mpr c15
                by_cases c68 : t261 = true
                · subst c68
                  have H1 : (if t274 = 2 then (if t273 = (wrap64 ((sx4.size : Int) + t268)) then (some ((t272.length : Int) == 0)) else (some false)) else (some false)) = some r := by rw [if_pos rfl] at H; exact H
                  clear H
                  have H := H1
                  clear H1
                  by_cases c69 : t274 = 2
                  · rw [if_pos c69] at H
                    have c69b0 : (t274 == 2) = true := beq_iff_eq.mpr c69
                    have c69b1 : (t274 != 2) = false := bne_eq_false_iff_eq.mpr c69
                    clear c69
                    by_cases c70 : t273 = (wrap64 ((sx4.size : Int) + t268))
                    · rw [if_pos c70] at H
                      have c70b0 : (t273 == (wrap64 ((sx4.size : Int) + t268))) = true := beq_iff_eq.mpr c70
                      have c70b1 : (t273 != (wrap64 ((sx4.size : Int) + t268))) = false := bne_eq_false_iff_eq.mpr c70
                      clear c70
                      obtain rfl := Option.some.inj H
                      go_enter Try.func9, Try.ntmps9
                      go_wp2_with (first | (go_at_call 10; (with_reducible refine (carcanetlaw01_shown.calls k  true _ A3.out).mono ?_); rintro e w71 ⟨rfl, hb⟩; have n0_ := Aside0.mk (below_step (by repeat (first | (with_reducible first | exact HB.out | apply below_alloc | apply pw_below_drewN | apply below_drew1) | exact HB.out)) hb); clear HB; have HB := n0_; clear n0_; (try clear hb); (try clear hb2); (try clear hk); (try clear hi)) | (go_at_call 11; (with_reducible refine (runes_Decode.calls k sx4 t262 t263 t264 _ A10.out).mono ?_); rintro e w72 ⟨v265, rfl, ho0, hb⟩; have n0_ := Aside0.mk (Kd.R_lower ho0 (below_size (by repeat (first | (with_reducible first | exact HB.out | apply below_alloc | apply pw_below_drewN | apply below_drew1) | exact HB.out)))); have n1_ := Aside0.mk (below_step (by repeat (first | (with_reducible first | exact HB.out | apply below_alloc | apply pw_below_drewN | apply below_drew1) | exact HB.out)) hb); clear HB; have HO266 := n0_; have HB := n1_; clear n0_ n1_; (try clear hb); (try clear hb2); (try clear hk); (try clear hi); (try clear ho0)) | (go_at_call 11; (with_reducible refine (runes_Decode.calls k sx7 t267 t268 t269 _ A11.out).mono ?_); rintro e w73 ⟨v270, rfl, ho0, hb⟩; have n0_ := Aside0.mk (Kd.R_elder' (by (with_reducible repeat (first | apply Kd.R_alloc | apply Kd.R_drewN | apply Kd.R_drew)); exact HO266.out) (Kd.R_base ho0) hb); have n1_ := Aside0.mk (Kd.R_lower (Kd.R_new' ho0 (Kd.R_lt (by (with_reducible repeat (first | apply Kd.R_alloc | apply Kd.R_drewN | apply Kd.R_drew)); exact HO266.out))) (below_size (by repeat (first | (with_reducible first | exact HB.out | apply below_alloc | apply pw_below_drewN | apply below_drew1) | exact HB.out)))); have n2_ := Aside0.mk (below_step (by repeat (first | (with_reducible first | exact HB.out | apply below_alloc | apply pw_below_drewN | apply below_drew1) | exact HB.out)) hb); clear HO266; clear HB; have HO266 := n0_; have HO271 := n1_; have HB := n2_; clear n0_ n1_ n2_; (try clear hb); (try clear hb2); (try clear hk); (try clear hi); (try clear ho0)) | (go_at_call 11; (with_reducible refine (runes_Decode.calls k (sx4 ++ sx7) t272 t273 t274 _ A14.out).mono ?_); rintro e w74 ⟨v275, rfl, ho0, hb⟩; have n0_ := Aside0.mk (Kd.R_elder' (by (with_reducible repeat (first | apply Kd.R_alloc | apply Kd.R_drewN | apply Kd.R_drew)); exact HO266.out) (Kd.R_base ho0) hb); have n1_ := Aside0.mk (Kd.R_elder' (by (with_reducible repeat (first | apply Kd.R_alloc | apply Kd.R_drewN | apply Kd.R_drew)); exact HO271.out) (Kd.R_base ho0) hb); have n2_ := Aside0.mk (Kd.R_lower (Kd.R_new' (Kd.R_new' ho0 (Kd.R_lt (by (with_reducible repeat (first | apply Kd.R_alloc | apply Kd.R_drewN | apply Kd.R_drew)); exact HO266.out))) (Kd.R_lt (by (with_reducible repeat (first | apply Kd.R_alloc | apply Kd.R_drewN | apply Kd.R_drew)); exact HO271.out))) (below_size (by repeat (first | (with_reducible first | exact HB.out | apply below_alloc | apply pw_below_drewN | apply below_drew1) | exact HB.out)))); have n3_ := Aside0.mk (below_step (by repeat (first | (with_reducible first | exact HB.out | apply below_alloc | apply pw_below_drewN | apply below_drew1) | exact HB.out)) hb); clear HO266; clear HO271; clear HB; have HO266 := n0_; have HO271 := n1_; have HO276 := n2_; have HB := n3_; clear n0_ n1_ n2_ n3_; (try clear hb); (try clear hb2); (try clear hk); (try clear hi); (try clear ho0); obtain ⟨Ao75, co75, eo75⟩ := Kd.R_slice HO276.out; subst eo75))
                      repeat (go_quiet (first | (go_at_call 10; (with_reducible refine (carcanetlaw01_shown.calls k  true _ A3.out).mono ?_); rintro e w71 ⟨rfl, hb⟩; have n0_ := Aside0.mk (below_step (by repeat (first | (with_reducible first | exact HB.out | apply below_alloc | apply pw_below_drewN | apply below_drew1) | exact HB.out)) hb); clear HB; have HB := n0_; clear n0_; (try clear hb); (try clear hb2); (try clear hk); (try clear hi)) | (go_at_call 11; (with_reducible refine (runes_Decode.calls k sx4 t262 t263 t264 _ A10.out).mono ?_); rintro e w72 ⟨v265, rfl, ho0, hb⟩; have n0_ := Aside0.mk (Kd.R_lower ho0 (below_size (by repeat (first | (with_reducible first | exact HB.out | apply below_alloc | apply pw_below_drewN | apply below_drew1) | exact HB.out)))); have n1_ := Aside0.mk (below_step (by repeat (first | (with_reducible first | exact HB.out | apply below_alloc | apply pw_below_drewN | apply below_drew1) | exact HB.out)) hb); clear HB; have HO266 := n0_; have HB := n1_; clear n0_ n1_; (try clear hb); (try clear hb2); (try clear hk); (try clear hi); (try clear ho0)) | (go_at_call 11; (with_reducible refine (runes_Decode.calls k sx7 t267 t268 t269 _ A11.out).mono ?_); rintro e w73 ⟨v270, rfl, ho0, hb⟩; have n0_ := Aside0.mk (Kd.R_elder' (by (with_reducible repeat (first | apply Kd.R_alloc | apply Kd.R_drewN | apply Kd.R_drew)); exact HO266.out) (Kd.R_base ho0) hb); have n1_ := Aside0.mk (Kd.R_lower (Kd.R_new' ho0 (Kd.R_lt (by (with_reducible repeat (first | apply Kd.R_alloc | apply Kd.R_drewN | apply Kd.R_drew)); exact HO266.out))) (below_size (by repeat (first | (with_reducible first | exact HB.out | apply below_alloc | apply pw_below_drewN | apply below_drew1) | exact HB.out)))); have n2_ := Aside0.mk (below_step (by repeat (first | (with_reducible first | exact HB.out | apply below_alloc | apply pw_below_drewN | apply below_drew1) | exact HB.out)) hb); clear HO266; clear HB; have HO266 := n0_; have HO271 := n1_; have HB := n2_; clear n0_ n1_ n2_; (try clear hb); (try clear hb2); (try clear hk); (try clear hi); (try clear ho0)) | (go_at_call 11; (with_reducible refine (runes_Decode.calls k (sx4 ++ sx7) t272 t273 t274 _ A14.out).mono ?_); rintro e w74 ⟨v275, rfl, ho0, hb⟩; have n0_ := Aside0.mk (Kd.R_elder' (by (with_reducible repeat (first | apply Kd.R_alloc | apply Kd.R_drewN | apply Kd.R_drew)); exact HO266.out) (Kd.R_base ho0) hb); have n1_ := Aside0.mk (Kd.R_elder' (by (with_reducible repeat (first | apply Kd.R_alloc | apply Kd.R_drewN | apply Kd.R_drew)); exact HO271.out) (Kd.R_base ho0) hb); have n2_ := Aside0.mk (Kd.R_lower (Kd.R_new' (Kd.R_new' ho0 (Kd.R_lt (by (with_reducible repeat (first | apply Kd.R_alloc | apply Kd.R_drewN | apply Kd.R_drew)); exact HO266.out))) (Kd.R_lt (by (with_reducible repeat (first | apply Kd.R_alloc | apply Kd.R_drewN | apply Kd.R_drew)); exact HO271.out))) (below_size (by repeat (first | (with_reducible first | exact HB.out | apply below_alloc | apply pw_below_drewN | apply below_drew1) | exact HB.out)))); have n3_ := Aside0.mk (below_step (by repeat (first | (with_reducible first | exact HB.out | apply below_alloc | apply pw_below_drewN | apply below_drew1) | exact HB.out)) hb); clear HO266; clear HO271; clear HB; have HO266 := n0_; have HO271 := n1_; have HO276 := n2_; have HB := n3_; clear n0_ n1_ n2_ n3_; (try clear hb); (try clear hb2); (try clear hk); (try clear hi); (try clear ho0); obtain ⟨Ao75, co75, eo75⟩ := Kd.R_slice HO276.out; subst eo75)); try go_wp2_with (first | (go_at_call 10; (with_reducible refine (carcanetlaw01_shown.calls k  true _ A3.out).mono ?_); rintro e w71 ⟨rfl, hb⟩; have n0_ := Aside0.mk (below_step (by repeat (first | (with_reducible first | exact HB.out | apply below_alloc | apply pw_below_drewN | apply below_drew1) | exact HB.out)) hb); clear HB; have HB := n0_; clear n0_; (try clear hb); (try clear hb2); (try clear hk); (try clear hi)) | (go_at_call 11; (with_reducible refine (runes_Decode.calls k sx4 t262 t263 t264 _ A10.out).mono ?_); rintro e w72 ⟨v265, rfl, ho0, hb⟩; have n0_ := Aside0.mk (Kd.R_lower ho0 (below_size (by repeat (first | (with_reducible first | exact HB.out | apply below_alloc | apply pw_below_drewN | apply below_drew1) | exact HB.out)))); have n1_ := Aside0.mk (below_step (by repeat (first | (with_reducible first | exact HB.out | apply below_alloc | apply pw_below_drewN | apply below_drew1) | exact HB.out)) hb); clear HB; have HO266 := n0_; have HB := n1_; clear n0_ n1_; (try clear hb); (try clear hb2); (try clear hk); (try clear hi); (try clear ho0)) | (go_at_call 11; (with_reducible refine (runes_Decode.calls k sx7 t267 t268 t269 _ A11.out).mono ?_); rintro e w73 ⟨v270, rfl, ho0, hb⟩; have n0_ := Aside0.mk (Kd.R_elder' (by (with_reducible repeat (first | apply Kd.R_alloc | apply Kd.R_drewN | apply Kd.R_drew)); exact HO266.out) (Kd.R_base ho0) hb); have n1_ := Aside0.mk (Kd.R_lower (Kd.R_new' ho0 (Kd.R_lt (by (with_reducible repeat (first | apply Kd.R_alloc | apply Kd.R_drewN | apply Kd.R_drew)); exact HO266.out))) (below_size (by repeat (first | (with_reducible first | exact HB.out | apply below_alloc | apply pw_below_drewN | apply below_drew1) | exact HB.out)))); have n2_ := Aside0.mk (below_step (by repeat (first | (with_reducible first | exact HB.out | apply below_alloc | apply pw_below_drewN | apply below_drew1) | exact HB.out)) hb); clear HO266; clear HB; have HO266 := n0_; have HO271 := n1_; have HB := n2_; clear n0_ n1_ n2_; (try clear hb); (try clear hb2); (try clear hk); (try clear hi); (try clear ho0)) | (go_at_call 11; (with_reducible refine (runes_Decode.calls k (sx4 ++ sx7) t272 t273 t274 _ A14.out).mono ?_); rintro e w74 ⟨v275, rfl, ho0, hb⟩; have n0_ := Aside0.mk (Kd.R_elder' (by (with_reducible repeat (first | apply Kd.R_alloc | apply Kd.R_drewN | apply Kd.R_drew)); exact HO266.out) (Kd.R_base ho0) hb); have n1_ := Aside0.mk (Kd.R_elder' (by (with_reducible repeat (first | apply Kd.R_alloc | apply Kd.R_drewN | apply Kd.R_drew)); exact HO271.out) (Kd.R_base ho0) hb); have n2_ := Aside0.mk (Kd.R_lower (Kd.R_new' (Kd.R_new' ho0 (Kd.R_lt (by (with_reducible repeat (first | apply Kd.R_alloc | apply Kd.R_drewN | apply Kd.R_drew)); exact HO266.out))) (Kd.R_lt (by (with_reducible repeat (first | apply Kd.R_alloc | apply Kd.R_drewN | apply Kd.R_drew)); exact HO271.out))) (below_size (by repeat (first | (with_reducible first | exact HB.out | apply below_alloc | apply pw_below_drewN | apply below_drew1) | exact HB.out)))); have n3_ := Aside0.mk (below_step (by repeat (first | (with_reducible first | exact HB.out | apply below_alloc | apply pw_below_drewN | apply below_drew1) | exact HB.out)) hb); clear HO266; clear HO271; clear HB; have HO266 := n0_; have HO271 := n1_; have HO276 := n2_; have HB := n3_; clear n0_ n1_ n2_ n3_; (try clear hb); (try clear hb2); (try clear hk); (try clear hi); (try clear ho0); obtain ⟨Ao75, co75, eo75⟩ := Kd.R_slice HO276.out; subst eo75)))
                      go_ret
                      exact ⟨by first | rfl | (simp [errW_none, errW_some] <;> rfl) | (simp only [← hji4, ← hji7]; first | rfl | (simp [errW_none, errW_some] <;> rfl)) | (simp [*, errW_none, errW_some] <;> rfl), by repeat (first | (with_reducible first | exact HB.out | apply below_alloc | apply pw_below_drewN | apply below_drew1) | exact HB.out)⟩
                    · rw [if_neg c70] at H
                      have c70b0 : (t273 == (wrap64 ((sx4.size : Int) + t268))) = false := beq_eq_false_iff_ne.mpr c70
                      have c70b1 : (t273 != (wrap64 ((sx4.size : Int) + t268))) = true := bne_iff_ne.mpr c70
                      obtain rfl := Option.some.inj H
                      go_enter Try.func9, Try.ntmps9
                      go_wp2_with (first | (go_at_call 10; (with_reducible refine (carcanetlaw01_shown.calls k  true _ A3.out).mono ?_); rintro e w76 ⟨rfl, hb⟩; have n0_ := Aside0.mk (below_step (by repeat (first | (with_reducible first | exact HB.out | apply below_alloc | apply pw_below_drewN | apply below_drew1) | exact HB.out)) hb); clear HB; have HB := n0_; clear n0_; (try clear hb); (try clear hb2); (try clear hk); (try clear hi)) | (go_at_call 11; (with_reducible refine (runes_Decode.calls k sx4 t262 t263 t264 _ A10.out).mono ?_); rintro e w77 ⟨v265, rfl, ho0, hb⟩; have n0_ := Aside0.mk (Kd.R_lower ho0 (below_size (by repeat (first | (with_reducible first | exact HB.out | apply below_alloc | apply pw_below_drewN | apply below_drew1) | exact HB.out)))); have n1_ := Aside0.mk (below_step (by repeat (first | (with_reducible first | exact HB.out | apply below_alloc | apply pw_below_drewN | apply below_drew1) | exact HB.out)) hb); clear HB; have HO266 := n0_; have HB := n1_; clear n0_ n1_; (try clear hb); (try clear hb2); (try clear hk); (try clear hi); (try clear ho0)) | (go_at_call 11; (with_reducible refine (runes_Decode.calls k sx7 t267 t268 t269 _ A11.out).mono ?_); rintro e w78 ⟨v270, rfl, ho0, hb⟩; have n0_ := Aside0.mk (Kd.R_elder' (by (with_reducible repeat (first | apply Kd.R_alloc | apply Kd.R_drewN | apply Kd.R_drew)); exact HO266.out) (Kd.R_base ho0) hb); have n1_ := Aside0.mk (Kd.R_lower (Kd.R_new' ho0 (Kd.R_lt (by (with_reducible repeat (first | apply Kd.R_alloc | apply Kd.R_drewN | apply Kd.R_drew)); exact HO266.out))) (below_size (by repeat (first | (with_reducible first | exact HB.out | apply below_alloc | apply pw_below_drewN | apply below_drew1) | exact HB.out)))); have n2_ := Aside0.mk (below_step (by repeat (first | (with_reducible first | exact HB.out | apply below_alloc | apply pw_below_drewN | apply below_drew1) | exact HB.out)) hb); clear HO266; clear HB; have HO266 := n0_; have HO271 := n1_; have HB := n2_; clear n0_ n1_ n2_; (try clear hb); (try clear hb2); (try clear hk); (try clear hi); (try clear ho0)) | (go_at_call 11; (with_reducible refine (runes_Decode.calls k (sx4 ++ sx7) t272 t273 t274 _ A14.out).mono ?_); rintro e w79 ⟨v275, rfl, ho0, hb⟩; have n0_ := Aside0.mk (Kd.R_elder' (by (with_reducible repeat (first | apply Kd.R_alloc | apply Kd.R_drewN | apply Kd.R_drew)); exact HO266.out) (Kd.R_base ho0) hb); have n1_ := Aside0.mk (Kd.R_elder' (by (with_reducible repeat (first | apply Kd.R_alloc | apply Kd.R_drewN | apply Kd.R_drew)); exact HO271.out) (Kd.R_base ho0) hb); have n2_ := Aside0.mk (Kd.R_lower (Kd.R_new' (Kd.R_new' ho0 (Kd.R_lt (by (with_reducible repeat (first | apply Kd.R_alloc | apply Kd.R_drewN | apply Kd.R_drew)); exact HO266.out))) (Kd.R_lt (by (with_reducible repeat (first | apply Kd.R_alloc | apply Kd.R_drewN | apply Kd.R_drew)); exact HO271.out))) (below_size (by repeat (first | (with_reducible first | exact HB.out | apply below_alloc | apply pw_below_drewN | apply below_drew1) | exact HB.out)))); have n3_ := Aside0.mk (below_step (by repeat (first | (with_reducible first | exact HB.out | apply below_alloc | apply pw_below_drewN | apply below_drew1) | exact HB.out)) hb); clear HO266; clear HO271; clear HB; have HO266 := n0_; have HO271 := n1_; have HO276 := n2_; have HB := n3_; clear n0_ n1_ n2_ n3_; (try clear hb); (try clear hb2); (try clear hk); (try clear hi); (try clear ho0)))
                      repeat (go_quiet (first | (go_at_call 10; (with_reducible refine (carcanetlaw01_shown.calls k  true _ A3.out).mono ?_); rintro e w76 ⟨rfl, hb⟩; have n0_ := Aside0.mk (below_step (by repeat (first | (with_reducible first | exact HB.out | apply below_alloc | apply pw_below_drewN | apply below_drew1) | exact HB.out)) hb); clear HB; have HB := n0_; clear n0_; (try clear hb); (try clear hb2); (try clear hk); (try clear hi)) | (go_at_call 11; (with_reducible refine (runes_Decode.calls k sx4 t262 t263 t264 _ A10.out).mono ?_); rintro e w77 ⟨v265, rfl, ho0, hb⟩; have n0_ := Aside0.mk (Kd.R_lower ho0 (below_size (by repeat (first | (with_reducible first | exact HB.out | apply below_alloc | apply pw_below_drewN | apply below_drew1) | exact HB.out)))); have n1_ := Aside0.mk (below_step (by repeat (first | (with_reducible first | exact HB.out | apply below_alloc | apply pw_below_drewN | apply below_drew1) | exact HB.out)) hb); clear HB; have HO266 := n0_; have HB := n1_; clear n0_ n1_; (try clear hb); (try clear hb2); (try clear hk); (try clear hi); (try clear ho0)) | (go_at_call 11; (with_reducible refine (runes_Decode.calls k sx7 t267 t268 t269 _ A11.out).mono ?_); rintro e w78 ⟨v270, rfl, ho0, hb⟩; have n0_ := Aside0.mk (Kd.R_elder' (by (with_reducible repeat (first | apply Kd.R_alloc | apply Kd.R_drewN | apply Kd.R_drew)); exact HO266.out) (Kd.R_base ho0) hb); have n1_ := Aside0.mk (Kd.R_lower (Kd.R_new' ho0 (Kd.R_lt (by (with_reducible repeat (first | apply Kd.R_alloc | apply Kd.R_drewN | apply Kd.R_drew)); exact HO266.out))) (below_size (by repeat (first | (with_reducible first | exact HB.out | apply below_alloc | apply pw_below_drewN | apply below_drew1) | exact HB.out)))); have n2_ := Aside0.mk (below_step (by repeat (first | (with_reducible first | exact HB.out | apply below_alloc | apply pw_below_drewN | apply below_drew1) | exact HB.out)) hb); clear HO266; clear HB; have HO266 := n0_; have HO271 := n1_; have HB := n2_; clear n0_ n1_ n2_; (try clear hb); (try clear hb2); (try clear hk); (try clear hi); (try clear ho0)) | (go_at_call 11; (with_reducible refine (runes_Decode.calls k (sx4 ++ sx7) t272 t273 t274 _ A14.out).mono ?_); rintro e w79 ⟨v275, rfl, ho0, hb⟩; have n0_ := Aside0.mk (Kd.R_elder' (by (with_reducible repeat (first | apply Kd.R_alloc | apply Kd.R_drewN | apply Kd.R_drew)); exact HO266.out) (Kd.R_base ho0) hb); have n1_ := Aside0.mk (Kd.R_elder' (by (with_reducible repeat (first | apply Kd.R_alloc | apply Kd.R_drewN | apply Kd.R_drew)); exact HO271.out) (Kd.R_base ho0) hb); have n2_ := Aside0.mk (Kd.R_lower (Kd.R_new' (Kd.R_new' ho0 (Kd.R_lt (by (with_reducible repeat (first | apply Kd.R_alloc | apply Kd.R_drewN | apply Kd.R_drew)); exact HO266.out))) (Kd.R_lt (by (with_reducible repeat (first | apply Kd.R_alloc | apply Kd.R_drewN | apply Kd.R_drew)); exact HO271.out))) (below_size (by repeat (first | (with_reducible first | exact HB.out | apply below_alloc | apply pw_below_drewN | apply below_drew1) | exact HB.out)))); have n3_ := Aside0.mk (below_step (by repeat (first | (with_reducible first | exact HB.out | apply below_alloc | apply pw_below_drewN | apply below_drew1) | exact HB.out)) hb); clear HO266; clear HO271; clear HB; have HO266 := n0_; have HO271 := n1_; have HO276 := n2_; have HB := n3_; clear n0_ n1_ n2_ n3_; (try clear hb); (try clear hb2); (try clear hk); (try clear hi); (try clear ho0))); try go_wp2_with (first | (go_at_call 10; (with_reducible refine (carcanetlaw01_shown.calls k  true _ A3.out).mono ?_); rintro e w76 ⟨rfl, hb⟩; have n0_ := Aside0.mk (below_step (by repeat (first | (with_reducible first | exact HB.out | apply below_alloc | apply pw_below_drewN | apply below_drew1) | exact HB.out)) hb); clear HB; have HB := n0_; clear n0_; (try clear hb); (try clear hb2); (try clear hk); (try clear hi)) | (go_at_call 11; (with_reducible refine (runes_Decode.calls k sx4 t262 t263 t264 _ A10.out).mono ?_); rintro e w77 ⟨v265, rfl, ho0, hb⟩; have n0_ := Aside0.mk (Kd.R_lower ho0 (below_size (by repeat (first | (with_reducible first | exact HB.out | apply below_alloc | apply pw_below_drewN | apply below_drew1) | exact HB.out)))); have n1_ := Aside0.mk (below_step (by repeat (first | (with_reducible first | exact HB.out | apply below_alloc | apply pw_below_drewN | apply below_drew1) | exact HB.out)) hb); clear HB; have HO266 := n0_; have HB := n1_; clear n0_ n1_; (try clear hb); (try clear hb2); (try clear hk); (try clear hi); (try clear ho0)) | (go_at_call 11; (with_reducible refine (runes_Decode.calls k sx7 t267 t268 t269 _ A11.out).mono ?_); rintro e w78 ⟨v270, rfl, ho0, hb⟩; have n0_ := Aside0.mk (Kd.R_elder' (by (with_reducible repeat (first | apply Kd.R_alloc | apply Kd.R_drewN | apply Kd.R_drew)); exact HO266.out) (Kd.R_base ho0) hb); have n1_ := Aside0.mk (Kd.R_lower (Kd.R_new' ho0 (Kd.R_lt (by (with_reducible repeat (first | apply Kd.R_alloc | apply Kd.R_drewN | apply Kd.R_drew)); exact HO266.out))) (below_size (by repeat (first | (with_reducible first | exact HB.out | apply below_alloc | apply pw_below_drewN | apply below_drew1) | exact HB.out)))); have n2_ := Aside0.mk (below_step (by repeat (first | (with_reducible first | exact HB.out | apply below_alloc | apply pw_below_drewN | apply below_drew1) | exact HB.out)) hb); clear HO266; clear HB; have HO266 := n0_; have HO271 := n1_; have HB := n2_; clear n0_ n1_ n2_; (try clear hb); (try clear hb2); (try clear hk); (try clear hi); (try clear ho0)) | (go_at_call 11; (with_reducible refine (runes_Decode.calls k (sx4 ++ sx7) t272 t273 t274 _ A14.out).mono ?_); rintro e w79 ⟨v275, rfl, ho0, hb⟩; have n0_ := Aside0.mk (Kd.R_elder' (by (with_reducible repeat (first | apply Kd.R_alloc | apply Kd.R_drewN | apply Kd.R_drew)); exact HO266.out) (Kd.R_base ho0) hb); have n1_ := Aside0.mk (Kd.R_elder' (by (with_reducible repeat (first | apply Kd.R_alloc | apply Kd.R_drewN | apply Kd.R_drew)); exact HO271.out) (Kd.R_base ho0) hb); have n2_ := Aside0.mk (Kd.R_lower (Kd.R_new' (Kd.R_new' ho0 (Kd.R_lt (by (with_reducible repeat (first | apply Kd.R_alloc | apply Kd.R_drewN | apply Kd.R_drew)); exact HO266.out))) (Kd.R_lt (by (with_reducible repeat (first | apply Kd.R_alloc | apply Kd.R_drewN | apply Kd.R_drew)); exact HO271.out))) (below_size (by repeat (first | (with_reducible first | exact HB.out | apply below_alloc | apply pw_below_drewN | apply below_drew1) | exact HB.out)))); have n3_ := Aside0.mk (below_step (by repeat (first | (with_reducible first | exact HB.out | apply below_alloc | apply pw_below_drewN | apply below_drew1) | exact HB.out)) hb); clear HO266; clear HO271; clear HB; have HO266 := n0_; have HO271 := n1_; have HO276 := n2_; have HB := n3_; clear n0_ n1_ n2_ n3_; (try clear hb); (try clear hb2); (try clear hk); (try clear hi); (try clear ho0))))
                      go_ret
                      exact ⟨by first | rfl | (simp [errW_none, errW_some] <;> rfl) | (simp only [← hji4, ← hji7]; first | rfl | (simp [errW_none, errW_some] <;> rfl)) | (simp [*, errW_none, errW_some] <;> rfl), by repeat (first | (with_reducible first | exact HB.out | apply below_alloc | apply pw_below_drewN | apply below_drew1) | exact HB.out)⟩
                  · rw [if_neg c69] at H
                    have c69b0 : (t274 == 2) = false := beq_eq_false_iff_ne.mpr c69
                    have c69b1 : (t274 != 2) = true := bne_iff_ne.mpr c69
                    obtain rfl := Option.some.inj H
                    go_enter Try.func9, Try.ntmps9
                    go_wp2_with (first | (go_at_call 10; (with_reducible refine (carcanetlaw01_shown.calls k  true _ A3.out).mono ?_); rintro e w80 ⟨rfl, hb⟩; have n0_ := Aside0.mk (below_step (by repeat (first | (with_reducible first | exact HB.out | apply below_alloc | apply pw_below_drewN | apply below_drew1) | exact HB.out)) hb); clear HB; have HB := n0_; clear n0_; (try clear hb); (try clear hb2); (try clear hk); (try clear hi)) | (go_at_call 11; (with_reducible refine (runes_Decode.calls k sx4 t262 t263 t264 _ A10.out).mono ?_); rintro e w81 ⟨v265, rfl, ho0, hb⟩; have n0_ := Aside0.mk (Kd.R_lower ho0 (below_size (by repeat (first | (with_reducible first | exact HB.out | apply below_alloc | apply pw_below_drewN | apply below_drew1) | exact HB.out)))); have n1_ := Aside0.mk (below_step (by repeat (first | (with_reducible first | exact HB.out | apply below_alloc | apply pw_below_drewN | apply below_drew1) | exact HB.out)) hb); clear HB; have HO266 := n0_; have HB := n1_; clear n0_ n1_; (try clear hb); (try clear hb2); (try clear hk); (try clear hi); (try clear ho0)) | (go_at_call 11; (with_reducible refine (runes_Decode.calls k sx7 t267 t268 t269 _ A11.out).mono ?_); rintro e w82 ⟨v270, rfl, ho0, hb⟩; have n0_ := Aside0.mk (Kd.R_elder' (by (with_reducible repeat (first | apply Kd.R_alloc | apply Kd.R_drewN | apply Kd.R_drew)); exact HO266.out) (Kd.R_base ho0) hb); have n1_ := Aside0.mk (Kd.R_lower (Kd.R_new' ho0 (Kd.R_lt (by (with_reducible repeat (first | apply Kd.R_alloc | apply Kd.R_drewN | apply Kd.R_drew)); exact HO266.out))) (below_size (by repeat (first | (with_reducible first | exact HB.out | apply below_alloc | apply pw_below_drewN | apply below_drew1) | exact HB.out)))); have n2_ := Aside0.mk (below_step (by repeat (first | (with_reducible first | exact HB.out | apply below_alloc | apply pw_below_drewN | apply below_drew1) | exact HB.out)) hb); clear HO266; clear HB; have HO266 := n0_; have HO271 := n1_; have HB := n2_; clear n0_ n1_ n2_; (try clear hb); (try clear hb2); (try clear hk); (try clear hi); (try clear ho0)) | (go_at_call 11; (with_reducible refine (runes_Decode.calls k (sx4 ++ sx7) t272 t273 t274 _ A14.out).mono ?_); rintro e w83 ⟨v275, rfl, ho0, hb⟩; have n0_ := Aside0.mk (Kd.R_elder' (by (with_reducible repeat (first | apply Kd.R_alloc | apply Kd.R_drewN | apply Kd.R_drew)); exact HO266.out) (Kd.R_base ho0) hb); have n1_ := Aside0.mk (Kd.R_elder' (by (with_reducible repeat (first | apply Kd.R_alloc | apply Kd.R_drewN | apply Kd.R_drew)); exact HO271.out) (Kd.R_base ho0) hb); have n2_ := Aside0.mk (Kd.R_lower (Kd.R_new' (Kd.R_new' ho0 (Kd.R_lt (by (with_reducible repeat (first | apply Kd.R_alloc | apply Kd.R_drewN | apply Kd.R_drew)); exact HO266.out))) (Kd.R_lt (by (with_reducible repeat (first | apply Kd.R_alloc | apply Kd.R_drewN | apply Kd.R_drew)); exact HO271.out))) (below_size (by repeat (first | (with_reducible first | exact HB.out | apply below_alloc | apply pw_below_drewN | apply below_drew1) | exact HB.out)))); have n3_ := Aside0.mk (below_step (by repeat (first | (with_reducible first | exact HB.out | apply below_alloc | apply pw_below_drewN | apply below_drew1) | exact HB.out)) hb); clear HO266; clear HO271; clear HB; have HO266 := n0_; have HO271 := n1_; have HO276 := n2_; have HB := n3_; clear n0_ n1_ n2_ n3_; (try clear hb); (try clear hb2); (try clear hk); (try clear hi); (try clear ho0)))
                    repeat (go_quiet (first | (go_at_call 10; (with_reducible refine (carcanetlaw01_shown.calls k  true _ A3.out).mono ?_); rintro e w80 ⟨rfl, hb⟩; have n0_ := Aside0.mk (below_step (by repeat (first | (with_reducible first | exact HB.out | apply below_alloc | apply pw_below_drewN | apply below_drew1) | exact HB.out)) hb); clear HB; have HB := n0_; clear n0_; (try clear hb); (try clear hb2); (try clear hk); (try clear hi)) | (go_at_call 11; (with_reducible refine (runes_Decode.calls k sx4 t262 t263 t264 _ A10.out).mono ?_); rintro e w81 ⟨v265, rfl, ho0, hb⟩; have n0_ := Aside0.mk (Kd.R_lower ho0 (below_size (by repeat (first | (with_reducible first | exact HB.out | apply below_alloc | apply pw_below_drewN | apply below_drew1) | exact HB.out)))); have n1_ := Aside0.mk (below_step (by repeat (first | (with_reducible first | exact HB.out | apply below_alloc | apply pw_below_drewN | apply below_drew1) | exact HB.out)) hb); clear HB; have HO266 := n0_; have HB := n1_; clear n0_ n1_; (try clear hb); (try clear hb2); (try clear hk); (try clear hi); (try clear ho0)) | (go_at_call 11; (with_reducible refine (runes_Decode.calls k sx7 t267 t268 t269 _ A11.out).mono ?_); rintro e w82 ⟨v270, rfl, ho0, hb⟩; have n0_ := Aside0.mk (Kd.R_elder' (by (with_reducible repeat (first | apply Kd.R_alloc | apply Kd.R_drewN | apply Kd.R_drew)); exact HO266.out) (Kd.R_base ho0) hb); have n1_ := Aside0.mk (Kd.R_lower (Kd.R_new' ho0 (Kd.R_lt (by (with_reducible repeat (first | apply Kd.R_alloc | apply Kd.R_drewN | apply Kd.R_drew)); exact HO266.out))) (below_size (by repeat (first | (with_reducible first | exact HB.out | apply below_alloc | apply pw_below_drewN | apply below_drew1) | exact HB.out)))); have n2_ := Aside0.mk (below_step (by repeat (first | (with_reducible first | exact HB.out | apply below_alloc | apply pw_below_drewN | apply below_drew1) | exact HB.out)) hb); clear HO266; clear HB; have HO266 := n0_; have HO271 := n1_; have HB := n2_; clear n0_ n1_ n2_; (try clear hb); (try clear hb2); (try clear hk); (try clear hi); (try clear ho0)) | (go_at_call 11; (with_reducible refine (runes_Decode.calls k (sx4 ++ sx7) t272 t273 t274 _ A14.out).mono ?_); rintro e w83 ⟨v275, rfl, ho0, hb⟩; have n0_ := Aside0.mk (Kd.R_elder' (by (with_reducible repeat (first | apply Kd.R_alloc | apply Kd.R_drewN | apply Kd.R_drew)); exact HO266.out) (Kd.R_base ho0) hb); have n1_ := Aside0.mk (Kd.R_elder' (by (with_reducible repeat (first | apply Kd.R_alloc | apply Kd.R_drewN | apply Kd.R_drew)); exact HO271.out) (Kd.R_base ho0) hb); have n2_ := Aside0.mk (Kd.R_lower (Kd.R_new' (Kd.R_new' ho0 (Kd.R_lt (by (with_reducible repeat (first | apply Kd.R_alloc | apply Kd.R_drewN | apply Kd.R_drew)); exact HO266.out))) (Kd.R_lt (by (with_reducible repeat (first | apply Kd.R_alloc | apply Kd.R_drewN | apply Kd.R_drew)); exact HO271.out))) (below_size (by repeat (first | (with_reducible first | exact HB.out | apply below_alloc | apply pw_below_drewN | apply below_drew1) | exact HB.out)))); have n3_ := Aside0.mk (below_step (by repeat (first | (with_reducible first | exact HB.out | apply below_alloc | apply pw_below_drewN | apply below_drew1) | exact HB.out)) hb); clear HO266; clear HO271; clear HB; have HO266 := n0_; have HO271 := n1_; have HO276 := n2_; have HB := n3_; clear n0_ n1_ n2_ n3_; (try clear hb); (try clear hb2); (try clear hk); (try clear hi); (try clear ho0))); try go_wp2_with (first | (go_at_call 10; (with_reducible refine (carcanetlaw01_shown.calls k  true _ A3.out).mono ?_); rintro e w80 ⟨rfl, hb⟩; have n0_ := Aside0.mk (below_step (by repeat (first | (with_reducible first | exact HB.out | apply below_alloc | apply pw_below_drewN | apply below_drew1) | exact HB.out)) hb); clear HB; have HB := n0_; clear n0_; (try clear hb); (try clear hb2); (try clear hk); (try clear hi)) | (go_at_call 11; (with_reducible refine (runes_Decode.calls k sx4 t262 t263 t264 _ A10.out).mono ?_); rintro e w81 ⟨v265, rfl, ho0, hb⟩; have n0_ := Aside0.mk (Kd.R_lower ho0 (below_size (by repeat (first | (with_reducible first | exact HB.out | apply below_alloc | apply pw_below_drewN | apply below_drew1) | exact HB.out)))); have n1_ := Aside0.mk (below_step (by repeat (first | (with_reducible first | exact HB.out | apply below_alloc | apply pw_below_drewN | apply below_drew1) | exact HB.out)) hb); clear HB; have HO266 := n0_; have HB := n1_; clear n0_ n1_; (try clear hb); (try clear hb2); (try clear hk); (try clear hi); (try clear ho0)) | (go_at_call 11; (with_reducible refine (runes_Decode.calls k sx7 t267 t268 t269 _ A11.out).mono ?_); rintro e w82 ⟨v270, rfl, ho0, hb⟩; have n0_ := Aside0.mk (Kd.R_elder' (by (with_reducible repeat (first | apply Kd.R_alloc | apply Kd.R_drewN | apply Kd.R_drew)); exact HO266.out) (Kd.R_base ho0) hb); have n1_ := Aside0.mk (Kd.R_lower (Kd.R_new' ho0 (Kd.R_lt (by (with_reducible repeat (first | apply Kd.R_alloc | apply Kd.R_drewN | apply Kd.R_drew)); exact HO266.out))) (below_size (by repeat (first | (with_reducible first | exact HB.out | apply below_alloc | apply pw_below_drewN | apply below_drew1) | exact HB.out)))); have n2_ := Aside0.mk (below_step (by repeat (first | (with_reducible first | exact HB.out | apply below_alloc | apply pw_below_drewN | apply below_drew1) | exact HB.out)) hb); clear HO266; clear HB; have HO266 := n0_; have HO271 := n1_; have HB := n2_; clear n0_ n1_ n2_; (try clear hb); (try clear hb2); (try clear hk); (try clear hi); (try clear ho0)) | (go_at_call 11; (with_reducible refine (runes_Decode.calls k (sx4 ++ sx7) t272 t273 t274 _ A14.out).mono ?_); rintro e w83 ⟨v275, rfl, ho0, hb⟩; have n0_ := Aside0.mk (Kd.R_elder' (by (with_reducible repeat (first | apply Kd.R_alloc | apply Kd.R_drewN | apply Kd.R_drew)); exact HO266.out) (Kd.R_base ho0) hb); have n1_ := Aside0.mk (Kd.R_elder' (by (with_reducible repeat (first | apply Kd.R_alloc | apply Kd.R_drewN | apply Kd.R_drew)); exact HO271.out) (Kd.R_base ho0) hb); have n2_ := Aside0.mk (Kd.R_lower (Kd.R_new' (Kd.R_new' ho0 (Kd.R_lt (by (with_reducible repeat (first | apply Kd.R_alloc | apply Kd.R_drewN | apply Kd.R_drew)); exact HO266.out))) (Kd.R_lt (by (with_reducible repeat (first | apply Kd.R_alloc | apply Kd.R_drewN | apply Kd.R_drew)); exact HO271.out))) (below_size (by repeat (first | (with_reducible first | exact HB.out | apply below_alloc | apply pw_below_drewN | apply below_drew1) | exact HB.out)))); have n3_ := Aside0.mk (below_step (by repeat (first | (with_reducible first | exact HB.out | apply below_alloc | apply pw_below_drewN | apply below_drew1) | exact HB.out)) hb); clear HO266; clear HO271; clear HB; have HO266 := n0_; have HO271 := n1_; have HO276 := n2_; have HB := n3_; clear n0_ n1_ n2_ n3_; (try clear hb); (try clear hb2); (try clear hk); (try clear hi); (try clear ho0))))
                    go_ret
                    exact ⟨by first | rfl | (simp [errW_none, errW_some] <;> rfl) | (simp only [← hji4, ← hji7]; first | rfl | (simp [errW_none, errW_some] <;> rfl)) | (simp [*, errW_none, errW_some] <;> rfl), by repeat (first | (with_reducible first | exact HB.out | apply below_alloc | apply pw_below_drewN | apply below_drew1) | exact HB.out)⟩
                · replace c68 := Bool.eq_false_iff.mpr c68
                  subst c68
                  have H1 : (some false) = some r := by rw [if_neg (show ¬ (false = true) by decide)] at H; exact H
                  clear H
                  have H := H1
                  clear H1
                  obtain rfl := Option.some.inj H
                  go_enter Try.func9, Try.ntmps9
                  go_wp2_with (first | (go_at_call 10; (with_reducible refine (carcanetlaw01_shown.calls k  false _ A3.out).mono ?_); rintro e w84 ⟨rfl, hb⟩; have n0_ := Aside0.mk (below_step (by repeat (first | (with_reducible first | exact HB.out | apply below_alloc | apply pw_below_drewN | apply below_drew1) | exact HB.out)) hb); clear HB; have HB := n0_; clear n0_; (try clear hb); (try clear hb2); (try clear hk); (try clear hi)) | (go_at_call 11; (with_reducible refine (runes_Decode.calls k sx4 t262 t263 t264 _ A10.out).mono ?_); rintro e w85 ⟨v265, rfl, ho0, hb⟩; have n0_ := Aside0.mk (Kd.R_lower ho0 (below_size (by repeat (first | (with_reducible first | exact HB.out | apply below_alloc | apply pw_below_drewN | apply below_drew1) | exact HB.out)))); have n1_ := Aside0.mk (below_step (by repeat (first | (with_reducible first | exact HB.out | apply below_alloc | apply pw_below_drewN | apply below_drew1) | exact HB.out)) hb); clear HB; have HO266 := n0_; have HB := n1_; clear n0_ n1_; (try clear hb); (try clear hb2); (try clear hk); (try clear hi); (try clear ho0)) | (go_at_call 11; (with_reducible refine (runes_Decode.calls k sx7 t267 t268 t269 _ A11.out).mono ?_); rintro e w86 ⟨v270, rfl, ho0, hb⟩; have n0_ := Aside0.mk (Kd.R_elder' (by (with_reducible repeat (first | apply Kd.R_alloc | apply Kd.R_drewN | apply Kd.R_drew)); exact HO266.out) (Kd.R_base ho0) hb); have n1_ := Aside0.mk (Kd.R_lower (Kd.R_new' ho0 (Kd.R_lt (by (with_reducible repeat (first | apply Kd.R_alloc | apply Kd.R_drewN | apply Kd.R_drew)); exact HO266.out))) (below_size (by repeat (first | (with_reducible first | exact HB.out | apply below_alloc | apply pw_below_drewN | apply below_drew1) | exact HB.out)))); have n2_ := Aside0.mk (below_step (by repeat (first | (with_reducible first | exact HB.out | apply below_alloc | apply pw_below_drewN | apply below_drew1) | exact HB.out)) hb); clear HO266; clear HB; have HO266 := n0_; have HO271 := n1_; have HB := n2_; clear n0_ n1_ n2_; (try clear hb); (try clear hb2); (try clear hk); (try clear hi); (try clear ho0)) | (go_at_call 11; (with_reducible refine (runes_Decode.calls k (sx4 ++ sx7) t272 t273 t274 _ A14.out).mono ?_); rintro e w87 ⟨v275, rfl, ho0, hb⟩; have n0_ := Aside0.mk (Kd.R_elder' (by (with_reducible repeat (first | apply Kd.R_alloc | apply Kd.R_drewN | apply Kd.R_drew)); exact HO266.out) (Kd.R_base ho0) hb); have n1_ := Aside0.mk (Kd.R_elder' (by (with_reducible repeat (first | apply Kd.R_alloc | apply Kd.R_drewN | apply Kd.R_drew)); exact HO271.out) (Kd.R_base ho0) hb); have n2_ := Aside0.mk (Kd.R_lower (Kd.R_new' (Kd.R_new' ho0 (Kd.R_lt (by (with_reducible repeat (first | apply Kd.R_alloc | apply Kd.R_drewN | apply Kd.R_drew)); exact HO266.out))) (Kd.R_lt (by (with_reducible repeat (first | apply Kd.R_alloc | apply Kd.R_drewN | apply Kd.R_drew)); exact HO271.out))) (below_size (by repeat (first | (with_reducible first | exact HB.out | apply below_alloc | apply pw_below_drewN | apply below_drew1) | exact HB.out)))); have n3_ := Aside0.mk (below_step (by repeat (first | (with_reducible first | exact HB.out | apply below_alloc | apply pw_below_drewN | apply below_drew1) | exact HB.out)) hb); clear HO266; clear HO271; clear HB; have HO266 := n0_; have HO271 := n1_; have HO276 := n2_; have HB := n3_; clear n0_ n1_ n2_ n3_; (try clear hb); (try clear hb2); (try clear hk); (try clear hi); (try clear ho0)))
                  repeat (go_quiet (first | (go_at_call 10; (with_reducible refine (carcanetlaw01_shown.calls k  false _ A3.out).mono ?_); rintro e w84 ⟨rfl, hb⟩; have n0_ := Aside0.mk (below_step (by repeat (first | (with_reducible first | exact HB.out | apply below_alloc | apply pw_below_drewN | apply below_drew1) | exact HB.out)) hb); clear HB; have HB := n0_; clear n0_; (try clear hb); (try clear hb2); (try clear hk); (try clear hi)) | (go_at_call 11; (with_reducible refine (runes_Decode.calls k sx4 t262 t263 t264 _ A10.out).mono ?_); rintro e w85 ⟨v265, rfl, ho0, hb⟩; have n0_ := Aside0.mk (Kd.R_lower ho0 (below_size (by repeat (first | (with_reducible first | exact HB.out | apply below_alloc | apply pw_below_drewN | apply below_drew1) | exact HB.out)))); have n1_ := Aside0.mk (below_step (by repeat (first | (with_reducible first | exact HB.out | apply below_alloc | apply pw_below_drewN | apply below_drew1) | exact HB.out)) hb); clear HB; have HO266 := n0_; have HB := n1_; clear n0_ n1_; (try clear hb); (try clear hb2); (try clear hk); (try clear hi); (try clear ho0)) | (go_at_call 11; (with_reducible refine (runes_Decode.calls k sx7 t267 t268 t269 _ A11.out).mono ?_); rintro e w86 ⟨v270, rfl, ho0, hb⟩; have n0_ := Aside0.mk (Kd.R_elder' (by (with_reducible repeat (first | apply Kd.R_alloc | apply Kd.R_drewN | apply Kd.R_drew)); exact HO266.out) (Kd.R_base ho0) hb); have n1_ := Aside0.mk (Kd.R_lower (Kd.R_new' ho0 (Kd.R_lt (by (with_reducible repeat (first | apply Kd.R_alloc | apply Kd.R_drewN | apply Kd.R_drew)); exact HO266.out))) (below_size (by repeat (first | (with_reducible first | exact HB.out | apply below_alloc | apply pw_below_drewN | apply below_drew1) | exact HB.out)))); have n2_ := Aside0.mk (below_step (by repeat (first | (with_reducible first | exact HB.out | apply below_alloc | apply pw_below_drewN | apply below_drew1) | exact HB.out)) hb); clear HO266; clear HB; have HO266 := n0_; have HO271 := n1_; have HB := n2_; clear n0_ n1_ n2_; (try clear hb); (try clear hb2); (try clear hk); (try clear hi); (try clear ho0)) | (go_at_call 11; (with_reducible refine (runes_Decode.calls k (sx4 ++ sx7) t272 t273 t274 _ A14.out).mono ?_); rintro e w87 ⟨v275, rfl, ho0, hb⟩; have n0_ := Aside0.mk (Kd.R_elder' (by (with_reducible repeat (first | apply Kd.R_alloc | apply Kd.R_drewN | apply Kd.R_drew)); exact HO266.out) (Kd.R_base ho0) hb); have n1_ := Aside0.mk (Kd.R_elder' (by (with_reducible repeat (first | apply Kd.R_alloc | apply Kd.R_drewN | apply Kd.R_drew)); exact HO271.out) (Kd.R_base ho0) hb); have n2_ := Aside0.mk (Kd.R_lower (Kd.R_new' (Kd.R_new' ho0 (Kd.R_lt (by (with_reducible repeat (first | apply Kd.R_alloc | apply Kd.R_drewN | apply Kd.R_drew)); exact HO266.out))) (Kd.R_lt (by (with_reducible repeat (first | apply Kd.R_alloc | apply Kd.R_drewN | apply Kd.R_drew)); exact HO271.out))) (below_size (by repeat (first | (with_reducible first | exact HB.out | apply below_alloc | apply pw_below_drewN | apply below_drew1) | exact HB.out)))); have n3_ := Aside0.mk (below_step (by repeat (first | (with_reducible first | exact HB.out | apply below_alloc | apply pw_below_drewN | apply below_drew1) | exact HB.out)) hb); clear HO266; clear HO271; clear HB; have HO266 := n0_; have HO271 := n1_; have HO276 := n2_; have HB := n3_; clear n0_ n1_ n2_ n3_; (try clear hb); (try clear hb2); (try clear hk); (try clear hi); (try clear ho0))); try go_wp2_with (first | (go_at_call 10; (with_reducible refine (carcanetlaw01_shown.calls k  false _ A3.out).mono ?_); rintro e w84 ⟨rfl, hb⟩; have n0_ := Aside0.mk (below_step (by repeat (first | (with_reducible first | exact HB.out | apply below_alloc | apply pw_below_drewN | apply below_drew1) | exact HB.out)) hb); clear HB; have HB := n0_; clear n0_; (try clear hb); (try clear hb2); (try clear hk); (try clear hi)) | (go_at_call 11; (with_reducible refine (runes_Decode.calls k sx4 t262 t263 t264 _ A10.out).mono ?_); rintro e w85 ⟨v265, rfl, ho0, hb⟩; have n0_ := Aside0.mk (Kd.R_lower ho0 (below_size (by repeat (first | (with_reducible first | exact HB.out | apply below_alloc | apply pw_below_drewN | apply below_drew1) | exact HB.out)))); have n1_ := Aside0.mk (below_step (by repeat (first | (with_reducible first | exact HB.out | apply below_alloc | apply pw_below_drewN | apply below_drew1) | exact HB.out)) hb); clear HB; have HO266 := n0_; have HB := n1_; clear n0_ n1_; (try clear hb); (try clear hb2); (try clear hk); (try clear hi); (try clear ho0)) | (go_at_call 11; (with_reducible refine (runes_Decode.calls k sx7 t267 t268 t269 _ A11.out).mono ?_); rintro e w86 ⟨v270, rfl, ho0, hb⟩; have n0_ := Aside0.mk (Kd.R_elder' (by (with_reducible repeat (first | apply Kd.R_alloc | apply Kd.R_drewN | apply Kd.R_drew)); exact HO266.out) (Kd.R_base ho0) hb); have n1_ := Aside0.mk (Kd.R_lower (Kd.R_new' ho0 (Kd.R_lt (by (with_reducible repeat (first | apply Kd.R_alloc | apply Kd.R_drewN | apply Kd.R_drew)); exact HO266.out))) (below_size (by repeat (first | (with_reducible first | exact HB.out | apply below_alloc | apply pw_below_drewN | apply below_drew1) | exact HB.out)))); have n2_ := Aside0.mk (below_step (by repeat (first | (with_reducible first | exact HB.out | apply below_alloc | apply pw_below_drewN | apply below_drew1) | exact HB.out)) hb); clear HO266; clear HB; have HO266 := n0_; have HO271 := n1_; have HB := n2_; clear n0_ n1_ n2_; (try clear hb); (try clear hb2); (try clear hk); (try clear hi); (try clear ho0)) | (go_at_call 11; (with_reducible refine (runes_Decode.calls k (sx4 ++ sx7) t272 t273 t274 _ A14.out).mono ?_); rintro e w87 ⟨v275, rfl, ho0, hb⟩; have n0_ := Aside0.mk (Kd.R_elder' (by (with_reducible repeat (first | apply Kd.R_alloc | apply Kd.R_drewN | apply Kd.R_drew)); exact HO266.out) (Kd.R_base ho0) hb); have n1_ := Aside0.mk (Kd.R_elder' (by (with_reducible repeat (first | apply Kd.R_alloc | apply Kd.R_drewN | apply Kd.R_drew)); exact HO271.out) (Kd.R_base ho0) hb); have n2_ := Aside0.mk (Kd.R_lower (Kd.R_new' (Kd.R_new' ho0 (Kd.R_lt (by (with_reducible repeat (first | apply Kd.R_alloc | apply Kd.R_drewN | apply Kd.R_drew)); exact HO266.out))) (Kd.R_lt (by (with_reducible repeat (first | apply Kd.R_alloc | apply Kd.R_drewN | apply Kd.R_drew)); exact HO271.out))) (below_size (by repeat (first | (with_reducible first | exact HB.out | apply below_alloc | apply pw_below_drewN | apply below_drew1) | exact HB.out)))); have n3_ := Aside0.mk (below_step (by repeat (first | (with_reducible first | exact HB.out | apply below_alloc | apply pw_below_drewN | apply below_drew1) | exact HB.out)) hb); clear HO266; clear HO271; clear HB; have HO266 := n0_; have HO271 := n1_; have HO276 := n2_; have HB := n3_; clear n0_ n1_ n2_ n3_; (try clear hb); (try clear hb2); (try clear hk); (try clear hi); (try clear ho0))))
                  go_ret
                  exact ⟨by first | rfl | (simp [errW_none, errW_some] <;> rfl) | (simp only [← hji4, ← hji7]; first | rfl | (simp [errW_none, errW_some] <;> rfl)) | (simp [*, errW_none, errW_some] <;> rfl), by repeat (first | (with_reducible first | exact HB.out | apply below_alloc | apply pw_below_drewN | apply below_drew1) | exact HB.out)⟩
            · rw [if_neg c13] at H
              exact absurd H (by simp)
          · rw [if_neg c12] at H
            have c12b0 : (t264 == 0) = false := beq_eq_false_iff_ne.mpr c12
            have c12b1 : (t264 != 0) = true := bne_iff_ne.mpr c12
            obtain rfl := Option.some.inj H
            go_enter Try.func9, Try.ntmps9
            go_wp2_with (first | (go_at_call 10; (with_reducible refine (carcanetlaw01_shown.calls k  t261 _ A3.out).mono ?_); rintro e w88 ⟨rfl, hb⟩; have n0_ := Aside0.mk (below_step (by repeat (first | (with_reducible first | exact HB.out | apply below_alloc | apply pw_below_drewN | apply below_drew1) | exact HB.out)) hb); clear HB; have HB := n0_; clear n0_; (try clear hb); (try clear hb2); (try clear hk); (try clear hi)) | (go_at_call 11; (with_reducible refine (runes_Decode.calls k sx4 t262 t263 t264 _ A10.out).mono ?_); rintro e w89 ⟨v265, rfl, ho0, hb⟩; have n0_ := Aside0.mk (Kd.R_lower ho0 (below_size (by repeat (first | (with_reducible first | exact HB.out | apply below_alloc | apply pw_below_drewN | apply below_drew1) | exact HB.out)))); have n1_ := Aside0.mk (below_step (by repeat (first | (with_reducible first | exact HB.out | apply below_alloc | apply pw_below_drewN | apply below_drew1) | exact HB.out)) hb); clear HB; have HO266 := n0_; have HB := n1_; clear n0_ n1_; (try clear hb); (try clear hb2); (try clear hk); (try clear hi); (try clear ho0)) | (go_at_call 11; (with_reducible refine (runes_Decode.calls k sx7 t267 t268 t269 _ A11.out).mono ?_); rintro e w90 ⟨v270, rfl, ho0, hb⟩; have n0_ := Aside0.mk (Kd.R_elder' (by (with_reducible repeat (first | apply Kd.R_alloc | apply Kd.R_drewN | apply Kd.R_drew)); exact HO266.out) (Kd.R_base ho0) hb); have n1_ := Aside0.mk (Kd.R_lower (Kd.R_new' ho0 (Kd.R_lt (by (with_reducible repeat (first | apply Kd.R_alloc | apply Kd.R_drewN | apply Kd.R_drew)); exact HO266.out))) (below_size (by repeat (first | (with_reducible first | exact HB.out | apply below_alloc | apply pw_below_drewN | apply below_drew1) | exact HB.out)))); have n2_ := Aside0.mk (below_step (by repeat (first | (with_reducible first | exact HB.out | apply below_alloc | apply pw_below_drewN | apply below_drew1) | exact HB.out)) hb); clear HO266; clear HB; have HO266 := n0_; have HO271 := n1_; have HB := n2_; clear n0_ n1_ n2_; (try clear hb); (try clear hb2); (try clear hk); (try clear hi); (try clear ho0)))
            repeat (go_quiet (first | (go_at_call 10; (with_reducible refine (carcanetlaw01_shown.calls k  t261 _ A3.out).mono ?_); rintro e w88 ⟨rfl, hb⟩; have n0_ := Aside0.mk (below_step (by repeat (first | (with_reducible first | exact HB.out | apply below_alloc | apply pw_below_drewN | apply below_drew1) | exact HB.out)) hb); clear HB; have HB := n0_; clear n0_; (try clear hb); (try clear hb2); (try clear hk); (try clear hi)) | (go_at_call 11; (with_reducible refine (runes_Decode.calls k sx4 t262 t263 t264 _ A10.out).mono ?_); rintro e w89 ⟨v265, rfl, ho0, hb⟩; have n0_ := Aside0.mk (Kd.R_lower ho0 (below_size (by repeat (first | (with_reducible first | exact HB.out | apply below_alloc | apply pw_below_drewN | apply below_drew1) | exact HB.out)))); have n1_ := Aside0.mk (below_step (by repeat (first | (with_reducible first | exact HB.out | apply below_alloc | apply pw_below_drewN | apply below_drew1) | exact HB.out)) hb); clear HB; have HO266 := n0_; have HB := n1_; clear n0_ n1_; (try clear hb); (try clear hb2); (try clear hk); (try clear hi); (try clear ho0)) | (go_at_call 11; (with_reducible refine (runes_Decode.calls k sx7 t267 t268 t269 _ A11.out).mono ?_); rintro e w90 ⟨v270, rfl, ho0, hb⟩; have n0_ := Aside0.mk (Kd.R_elder' (by (with_reducible repeat (first | apply Kd.R_alloc | apply Kd.R_drewN | apply Kd.R_drew)); exact HO266.out) (Kd.R_base ho0) hb); have n1_ := Aside0.mk (Kd.R_lower (Kd.R_new' ho0 (Kd.R_lt (by (with_reducible repeat (first | apply Kd.R_alloc | apply Kd.R_drewN | apply Kd.R_drew)); exact HO266.out))) (below_size (by repeat (first | (with_reducible first | exact HB.out | apply below_alloc | apply pw_below_drewN | apply below_drew1) | exact HB.out)))); have n2_ := Aside0.mk (below_step (by repeat (first | (with_reducible first | exact HB.out | apply below_alloc | apply pw_below_drewN | apply below_drew1) | exact HB.out)) hb); clear HO266; clear HB; have HO266 := n0_; have HO271 := n1_; have HB := n2_; clear n0_ n1_ n2_; (try clear hb); (try clear hb2); (try clear hk); (try clear hi); (try clear ho0))); try go_wp2_with (first | (go_at_call 10; (with_reducible refine (carcanetlaw01_shown.calls k  t261 _ A3.out).mono ?_); rintro e w88 ⟨rfl, hb⟩; have n0_ := Aside0.mk (below_step (by repeat (first | (with_reducible first | exact HB.out | apply below_alloc | apply pw_below_drewN | apply below_drew1) | exact HB.out)) hb); clear HB; have HB := n0_; clear n0_; (try clear hb); (try clear hb2); (try clear hk); (try clear hi)) | (go_at_call 11; (with_reducible refine (runes_Decode.calls k sx4 t262 t263 t264 _ A10.out).mono ?_); rintro e w89 ⟨v265, rfl, ho0, hb⟩; have n0_ := Aside0.mk (Kd.R_lower ho0 (below_size (by repeat (first | (with_reducible first | exact HB.out | apply below_alloc | apply pw_below_drewN | apply below_drew1) | exact HB.out)))); have n1_ := Aside0.mk (below_step (by repeat (first | (with_reducible first | exact HB.out | apply below_alloc | apply pw_below_drewN | apply below_drew1) | exact HB.out)) hb); clear HB; have HO266 := n0_; have HB := n1_; clear n0_ n1_; (try clear hb); (try clear hb2); (try clear hk); (try clear hi); (try clear ho0)) | (go_at_call 11; (with_reducible refine (runes_Decode.calls k sx7 t267 t268 t269 _ A11.out).mono ?_); rintro e w90 ⟨v270, rfl, ho0, hb⟩; have n0_ := Aside0.mk (Kd.R_elder' (by (with_reducible repeat (first | apply Kd.R_alloc | apply Kd.R_drewN | apply Kd.R_drew)); exact HO266.out) (Kd.R_base ho0) hb); have n1_ := Aside0.mk (Kd.R_lower (Kd.R_new' ho0 (Kd.R_lt (by (with_reducible repeat (first | apply Kd.R_alloc | apply Kd.R_drewN | apply Kd.R_drew)); exact HO266.out))) (below_size (by repeat (first | (with_reducible first | exact HB.out | apply below_alloc | apply pw_below_drewN | apply below_drew1) | exact HB.out)))); have n2_ := Aside0.mk (below_step (by repeat (first | (with_reducible first | exact HB.out | apply below_alloc | apply pw_below_drewN | apply below_drew1) | exact HB.out)) hb); clear HO266; clear HB; have HO266 := n0_; have HO271 := n1_; have HB := n2_; clear n0_ n1_ n2_; (try clear hb); (try clear hb2); (try clear hk); (try clear hi); (try clear ho0))))
            go_ret
            exact ⟨by first | rfl | (simp [errW_none, errW_some] <;> rfl) | (simp only [← hji4, ← hji7]; first | rfl | (simp [errW_none, errW_some] <;> rfl)) | (simp [*, errW_none, errW_some] <;> rfl), by repeat (first | (with_reducible first | exact HB.out | apply below_alloc | apply pw_below_drewN | apply below_drew1) | exact HB.out)⟩
        · rw [if_neg c9] at H
          exact absurd H (by simp)
      · rw [if_neg c8] at H
        exact absurd H (by simp)
    · rw [if_neg c6] at H
      exact absurd H (by simp)
  · rw [if_neg c5] at H
    exact absurd H (by simp)

/-- THE ONE PURE STATEMENT of carcanetlaw01_RunesJoin: yours. -/
def carcanetlaw01_RunesJoin.Pure : Prop := ∀ (a0 : ByteArray) (a1 : ByteArray), a0.size ≤ 140737488351232 → a1.size ≤ 140737488351232 → ∃ k, carcanetlaw01_RunesJoin.f k a0 a1 = some true
theorem carcanetlaw01_RunesJoin.walk (P : carcanetlaw01_RunesJoin.Pure) (a0 : ByteArray) (a1 : ByteArray) (w : World) (w0 : a0.size ≤ 140737488351232) (w1 : a1.size ≤ 140737488351232) :
    Calls Try.prog 9 #[.string a0, .string a1] w fun e w' => e = .returned (.bool true) ∧ Below w.heap.size w w' := by
  obtain ⟨k, h⟩ := P a0 a1 w0 w1
  refine (carcanetlaw01_RunesJoin.calls k a0 a1 true w h).mono ?_
  rintro e w' ⟨rfl, hd⟩
  exact ⟨rfl, hd⟩

end Go.Proofs.Ytipifdcamhmjaaa.PG
