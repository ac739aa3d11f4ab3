/- A part of what the law leans on: the abstract machine, the contracts, the rows. -/
import Derived.Test.YtgoiomkgedcfjaaK13
/- SubLeaves. -/
namespace Go.Ai.G
open Go.Ai
set_option maxRecDepth 100000
set_option linter.unusedSimpArgs false
set_option linter.unusedVariables false
variable {A : AProg} {φ : Nat → Nat}
def MonoI (N : Int) (f : Int → Int) : Prop := ∀ x y, 0 ≤ x → x < y → y < N → 0 ≤ f x → 0 ≤ f y → f x < f y
theorem normal_map {f : Int → Int} {N m : Int} {E : List Ed} (hR : rightE N E = true) (hf : MonoI N f) (hm : 0 ≤ m ∧ m ≤ 1000) (hlt : ∀ x, 0 ≤ x → x < N → f x < m) :
    normalE m (mapE f E) = (m, mapE f E, 0) ∧ rightE m (mapE f E) = true := by
  have hn := right_len hR
  have he := right_ends hR
  have hs := right_strict hR
  have hb : ∀ y ∈ mapE f E, 0 ≤ y.1 ∧ y.1 < y.2 ∧ y.2 < m := by
    intro y hy
    obtain ⟨⟨e, h1, rfl⟩, h2, h3⟩ := (mapE_mem _ _ _).1 hy
    obtain ⟨q1, q2, q3⟩ := he e h1
    exact ⟨h2, hf _ _ q1 q2 q3 h2 h3, hlt _ (by omega) q3⟩
  have hp : (mapE f E).Pairwise ltE := by
    unfold mapE
    rw [List.pairwise_filter, List.pairwise_map]
    refine List.Pairwise.imp_of_mem ?_ hs
    intro x y hx hy hl h1 h2
    simp only [Bool.and_eq_true, decide_eq_true_eq] at h1 h2
    have b1 := he x hx
    have b2 := he y hy
    rcases hl with hl | ⟨hl, hl2⟩
    · exact .inl (hf _ _ (by omega) hl (by omega) h1.1 h2.1)
    · exact .inr ⟨by simp only; rw [hl], hf _ _ (by omega) hl2 (by omega) h1.2 h2.2⟩
  have hok : (mapE f E).all (okEnds m) = true := by
    rw [List.all_eq_true]
    intro y hy
    have := hb y hy
    rw [okEnds, decide_eq_true (by omega), decide_eq_true (by omega)]; rfl
  have hl := mapE_len f E
  have hSe : setE (mapE f E) = mapE f E := by
    refine strict_eq _ _ (setE_strict _) hp fun x => ?_
    rw [setE_mem, normsE_mem]
    constructor
    · rintro ⟨y, hy, _, rfl⟩
      have := hb y hy
      rw [Int.min_eq_left (by omega), Int.max_eq_right (by omega)]; exact hy
    · intro hx
      have := hb x hx
      exact ⟨x, hx, by omega, by rw [Int.min_eq_left (by omega), Int.max_eq_right (by omega)]⟩
  refine ⟨?_, right_of hm.1 hm.2 (by omega) hp hb⟩
  rw [normalE_ok hm.1 hm.2 hok (by rw [hSe]; omega), hSe]
theorem mapE_congr {f g : Int → Int} : ∀ {E : List Ed}, (∀ e ∈ E, f e.1 = g e.1 ∧ f e.2 = g e.2) → mapE f E = mapE g E
  | [], _ => rfl
  | e :: l, h => by
    have h1 := h e (List.mem_cons_self ..)
    have h2 := mapE_congr (f := f) (g := g) (E := l) fun x hx => h x (List.mem_cons_of_mem _ hx)
    unfold mapE at h2 ⊢
    simp only [List.map_cons, List.filter_cons, h1.1, h1.2, h2]
theorem mapE_comp (f g : Int → Int) : ∀ (E : List Ed), mapE g (mapE f E) = mapE (fun x => if f x < 0 then -1 else g (f x)) E
  | [] => rfl
  | e :: l => by
    have h2 := mapE_comp f g l
    unfold mapE at h2 ⊢
    simp only [List.map_cons, List.filter_cons]
    by_cases q1 : f e.1 < 0
    · simp only [q1, if_true]
      rw [if_neg (by simp; omega), if_neg (by simp)]; exact h2
    · by_cases q2 : f e.2 < 0
      · simp only [q1, q2, if_true, if_false]
        rw [if_neg (by simp; omega), if_neg (by simp)]; exact h2
      · simp only [q1, q2, if_false]
        rw [if_pos (by simp; omega)]
        simp only [List.map_cons, List.filter_cons, h2]
def othersI (a b : Int) (k : Nat) : List Int := ((List.range k).filter fun (j : Nat) => decide ((j : Int) ≠ a) && decide ((j : Int) ≠ b)).map fun (j : Nat) => (j : Int)
theorem others_snoc (a b : Int) (k : Nat) : othersI a b (k + 1) = othersI a b k ++ (if (k : Int) ≠ a ∧ (k : Int) ≠ b then [(k : Int)] else []) := by
  simp only [othersI, List.range_succ, List.filter_append, List.map_append]
  congr 1
  by_cases h1 : (k : Int) = a <;> by_cases h2 : (k : Int) = b <;> simp [h1, h2]
theorem others_mem (a b : Int) (k : Nat) (x : Int) : x ∈ othersI a b k ↔ 0 ≤ x ∧ x < k ∧ x ≠ a ∧ x ≠ b := by
  simp only [othersI, List.mem_map, List.mem_filter, List.mem_range, Bool.and_eq_true, decide_eq_true_eq]
  constructor
  · rintro ⟨j, ⟨h1, h2, h3⟩, rfl⟩; exact ⟨by omega, by omega, h2, h3⟩
  · rintro ⟨h0, h1, h2, h3⟩
    exact ⟨x.toNat, ⟨by omega, by omega, by omega⟩, by omega⟩
theorem others_len {a b : Int} (ha : 0 ≤ a) (hb : 0 ≤ b) (hab : a ≠ b) : ∀ k : Nat, ((othersI a b k).length : Int) = (k : Int) - (if a < k then 1 else 0) - (if b < k then 1 else 0)
  | 0 => by rw [if_neg (by omega), if_neg (by omega)]; simp [othersI]
  | k + 1 => by
    have ih := others_len ha hb hab k
    have hL : (((if (k : Int) ≠ a ∧ (k : Int) ≠ b then [(k : Int)] else []) : List Int).length : Int) = if (k : Int) ≠ a ∧ (k : Int) ≠ b then 1 else 0 := by split <;> rfl
    rw [others_snoc, List.length_append, Int.natCast_add, hL]
    split at ih <;> split at ih <;> split <;> split <;> split <;> omega
theorem others_nodup (a b : Int) : ∀ k : Nat, (othersI a b k).Nodup
  | 0 => by simp [othersI]
  | k + 1 => by
    rw [others_snoc]
    split
    · exact nodup_snoc.2 ⟨others_nodup a b k, fun h => by have := (others_mem a b k k).1 h; omega⟩
    · rw [List.append_nil]; exact others_nodup a b k
theorem others_idx (a b : Int) (x : Nat) (hx : (x : Int) ≠ a ∧ (x : Int) ≠ b) : ∀ k : Nat, x < k → (othersI a b k).idxOf (x : Int) = (othersI a b x).length
  | 0, h => by omega
  | k + 1, h => by
    rw [others_snoc]
    rcases Nat.lt_or_ge x k with h1 | h1
    · rw [List.idxOf_append, if_pos ((others_mem a b k x).2 ⟨by omega, by omega, hx⟩)]
      exact others_idx a b x hx k h1
    · have : x = k := by omega
      subst this
      rw [if_pos hx, List.idxOf_append, if_neg (fun h => by have := (others_mem a b x x).1 h; omega)]
      simp
/-- The number of a vertex when two others have gone. -/
def twoI (lo hi x : Int) : Int := if x = lo ∨ x = hi then -1 else x - (if lo < x then 1 else 0) - (if hi < x then 1 else 0)
theorem others_pos {a b : Int} (ha : 0 ≤ a) (hb : 0 ≤ b) (hab : a ≠ b) (N : Nat) (x : Int) (h0 : 0 ≤ x) (h1 : x < N) : posI (othersI a b N) x = twoI a b x := by
  unfold posI twoI
  by_cases h : x = a ∨ x = b
  · rw [if_neg (fun hm => by have := (others_mem a b N x).1 hm; omega), if_pos h]
  · rw [if_pos ((others_mem a b N x).2 ⟨h0, h1, by omega, by omega⟩), if_neg h]
    obtain ⟨y, rfl⟩ : ∃ y : Nat, x = (y : Int) := ⟨x.toNat, by omega⟩
    rw [others_idx a b y ⟨by omega, by omega⟩ N (by omega), others_len ha hb hab y]
theorem del_mono (v N : Int) : MonoI N (delI v) := by
  intro x y h0 h1 h2 h3 h4
  unfold delI at *
  split at h3 <;> split at h4 <;> (try split at h3) <;> (try split at h4) <;> (try split) <;> (try split) <;> (try split) <;> omega
theorem two_mono {a b : Int} (hab : a ≠ b) (N : Int) : MonoI N (twoI a b) := by
  intro x y h0 h1 h2 h3 h4
  unfold twoI at *
  by_cases q1 : x = a ∨ x = b
  · rw [if_pos q1] at h3; omega
  · by_cases q2 : y = a ∨ y = b
    · rw [if_pos q2] at h4; omega
    · rw [if_neg q1, if_neg q2]
      split <;> split <;> split <;> split <;> omega
theorem leaves {N : Nat} {E : List Ed} {a b lo hi : Int} (hR : rightE N E = true) (ha : 0 ≤ a ∧ a < N) (hb : 0 ≤ b ∧ b < N) (hab : a ≠ b) (hlo : lo = min a b) (hhi : hi = max a b) :
    ∃ one three G : List Ed, deleteE N E hi = ((N : Int) - 1, one, 0) ∧ deleteE ((N : Int) - 1) one lo = ((N : Int) - 2, G, 0) ∧ deleteE N E lo = ((N : Int) - 1, three, 0) ∧ deleteE ((N : Int) - 1) three (hi - 1) = ((N : Int) - 2, G, 0) ∧ inducedE N E (othersI a b N) = ((N : Int) - 2, G, 0) := by
  have hn := right_len hR
  have hes := right_ends hR
  have hlh : 0 ≤ lo ∧ lo < hi ∧ hi < N := by omega
  have hdlt : ∀ v : Int, 0 ≤ v → v < N → ∀ x : Int, 0 ≤ x → x < N → delI v x < (N : Int) - 1 := by
    intro v h0 h1 x h2 h3
    unfold delI
    split <;> (try split) <;> omega
  have hdlt2 : ∀ v : Int, 0 ≤ v → v < (N : Int) - 1 → ∀ x : Int, 0 ≤ x → x < (N : Int) - 1 → delI v x < (N : Int) - 2 := by
    intro v h0 h1 x h2 h3
    unfold delI
    split <;> (try split) <;> omega
  obtain ⟨o1, o2⟩ := normal_map (m := (N : Int) - 1) hR (del_mono hi N) (by omega) (hdlt hi (by omega) (by omega))
  obtain ⟨t1, t2⟩ := normal_map (m := (N : Int) - 1) hR (del_mono lo N) (by omega) (hdlt lo (by omega) (by omega))
  obtain ⟨p1, p2⟩ := normal_map (m := (N : Int) - 2) o2 (del_mono lo ((N : Int) - 1)) (by omega) (hdlt2 lo (by omega) (by omega))
  obtain ⟨q1, q2⟩ := normal_map (m := (N : Int) - 2) t2 (del_mono (hi - 1) ((N : Int) - 1)) (by omega) (hdlt2 (hi - 1) (by omega) (by omega))
  have hl : ((othersI a b N).length : Int) = (N : Int) - 2 := by rw [others_len ha.1 hb.1 hab N, if_pos ha.2, if_pos hb.2]; omega
  have hpos : ∀ x : Int, 0 ≤ x → x < N → posI (othersI a b N) x = twoI a b x := fun x h0 h1 => others_pos ha.1 hb.1 hab N x h0 h1
  have e1 : mapE (delI lo) (mapE (delI hi) E) = mapE (twoI a b) E := by
    rw [mapE_comp]
    refine mapE_congr fun e he => ?_
    have := hes e he
    constructor <;> unfold delI twoI <;> (split <;> split <;> (try split) <;> (try split) <;> (try split) <;> (try split) <;> omega)
  have e2 : mapE (delI (hi - 1)) (mapE (delI lo) E) = mapE (twoI a b) E := by
    rw [mapE_comp]
    refine mapE_congr fun e he => ?_
    have := hes e he
    constructor <;> unfold delI twoI <;> (split <;> split <;> (try split) <;> (try split) <;> (try split) <;> (try split) <;> omega)
  have e3 : mapE (posI (othersI a b N)) E = mapE (twoI a b) E := by
    refine mapE_congr fun e he => ?_
    have := hes e he
    exact ⟨hpos _ (by omega) (by omega), hpos _ (by omega) (by omega)⟩
  have hbad : (othersI a b N).any (badI N) = false := by
    rw [List.any_eq_false]
    intro x hx
    have := (others_mem a b N x).1 hx
    simp only [badI, Bool.or_eq_true, decide_eq_true_eq]; omega
  have hnb : ∀ (m v : Int), 0 ≤ v → v < m → badI m v = false := by
    intro m v h0 h1
    simp only [badI, Bool.or_eq_false_iff, decide_eq_false_iff_not]; omega
  refine ⟨mapE (delI hi) E, mapE (delI lo) E, mapE (twoI a b) E, ?_, ?_, ?_, ?_, ?_⟩
  · unfold deleteE; rw [if_neg (by simp [hR]), if_neg (by rw [hnb N hi (by omega) (by omega)]; simp), o1]
  · unfold deleteE; rw [if_neg (by simp [o2]), if_neg (by rw [hnb _ lo (by omega) (by omega)]; simp), show (N : Int) - 1 - 1 = (N : Int) - 2 by omega, p1, e1]
  · unfold deleteE; rw [if_neg (by simp [hR]), if_neg (by rw [hnb N lo (by omega) (by omega)]; simp), t1]
  · unfold deleteE; rw [if_neg (by simp [t2]), if_neg (by rw [hnb _ (hi - 1) (by omega) (by omega)]; simp), show (N : Int) - 1 - 1 = (N : Int) - 2 by omega, q1, e2]
  · unfold inducedE
    rw [if_neg (by simp [hR]), if_neg (by rw [hbad]; simp), if_neg (by simp [others_nodup]), hl, e3]
    have hm := two_mono hab N
    refine (normal_map hR hm (by omega) fun x h0 h1 => ?_).1
    unfold twoI
    split
    · omega
    · split <;> split <;> omega
end Go.Ai.G
/- SubLeaves, the walk. -/
namespace Go.Ai.G
open Go.Ai
set_option maxRecDepth 100000
set_option linter.unusedSimpArgs false
set_option linter.unusedVariables false
variable {A : AProg} {φ : Nat → Nat}
theorem er50_0 (φ : Nat → Nat) : r50_0 φ = [
  ⟨0, .N .box, [.n 0], none, 0⟩,
  ⟨1, .N .mv, [.c (.bool false)], none, 0⟩] := Eq.trans rfl rfl
theorem er50_1 (φ : Nat → Nat) : r50_1 φ = [
  ⟨0, .calli true (φ 38), [], none, 0⟩,
  ⟨1, .N .mv, [.l 0], none, 0⟩] := Eq.trans rfl rfl
theorem er50_2 (φ : Nat → Nat) : r50_2 φ = [
  ⟨0, .N (.loadN 2), [.n 3], none, 0⟩,
  ⟨1, .calli false (φ 39), [.l 0, .c (.int .i64 30)], none, 0⟩,
  ⟨2, .N (.alloc [.int .i64 0, .nils]), [], none, 0⟩,
  ⟨3, .X (.store 2), [.l 0, .l 1], none, 0⟩] := Eq.trans rfl rfl
theorem er50_3 (φ : Nat → Nat) : r50_3 φ = [
  ⟨0, .N (.fadd 0), [.n 6], none, 0⟩,
  ⟨1, .N .load1, [.l 0], none, 0⟩,
  ⟨2, .N (.bin .lss), [.l 0, .c (.int .i64 2)], none, 0⟩] := Eq.trans rfl rfl
theorem er50_4 (φ : Nat → Nat) : r50_4 φ = [
  ⟨0, .N .mv, [.n 5], none, 0⟩,
  ⟨1, .N .mv, [.l 0], none, 0⟩] := Eq.trans rfl rfl
theorem er50_5 (φ : Nat → Nat) : r50_5 φ = [
  ⟨0, .N .mv, [.n 1], none, 0⟩,
  ⟨1, .N (.bin .and), [.l 0, .c (.int .i64 65535)], none, 0⟩,
  ⟨2, .N (.fadd 0), [.n 6], none, 0⟩,
  ⟨3, .N .load1, [.l 0], none, 0⟩,
  ⟨4, .N (.bin .rem), [.l 2, .l 0], none, 0⟩,
  ⟨5, .N .mv, [.l 0], none, 0⟩] := Eq.trans rfl rfl
theorem er50_6 (φ : Nat → Nat) : r50_6 φ = [
  ⟨0, .N .mv, [.n 1], none, 0⟩,
  ⟨1, .N (.bin .add), [.l 0, .c (.int .i64 1)], none, 1⟩,
  ⟨2, .N .mv, [.n 2], none, 0⟩,
  ⟨3, .N (.bin .and), [.l 0, .c (.int .i64 65535)], none, 4⟩,
  ⟨4, .N (.fadd 0), [.n 6], none, 0⟩,
  ⟨5, .N .load1, [.l 0], none, 16⟩,
  ⟨6, .N (.bin .sub), [.l 0, .c (.int .i64 1)], none, 48⟩,
  ⟨7, .N (.bin .rem), [.l 3, .l 0], none, 124⟩,
  ⟨8, .N (.bin .add), [.l 6, .l 0], none, 255⟩,
  ⟨9, .N (.fadd 0), [.n 6], none, 0⟩,
  ⟨10, .N .load1, [.l 0], none, 512⟩,
  ⟨11, .N (.bin .rem), [.l 2, .l 0], none, 2047⟩,
  ⟨12, .N .mv, [.l 0], none, 4095⟩] := Eq.trans rfl rfl
theorem er50_7 (φ : Nat → Nat) : r50_7 φ = [
  ⟨0, .N .mv, [.n 1], none, 0⟩,
  ⟨1, .N .mv, [.n 2], none, 0⟩,
  ⟨2, .N .min, [.l 1, .l 0], none, 0⟩,
  ⟨3, .N .mv, [.l 0], none, 0⟩] := Eq.trans rfl rfl
theorem er50_8 (φ : Nat → Nat) : r50_8 φ = [
  ⟨0, .N .mv, [.n 1], none, 0⟩,
  ⟨1, .N .mv, [.n 2], none, 0⟩,
  ⟨2, .N .max, [.l 1, .l 0], none, 0⟩,
  ⟨3, .N .mv, [.l 0], none, 0⟩] := Eq.trans rfl rfl
theorem er50_9 (φ : Nat → Nat) : r50_9 φ = [
  ⟨0, .N (.bsl [.int .i64 0] 0 1 []), [], none, 0⟩,
  ⟨1, .N .mv, [.l 0], none, 0⟩] := Eq.trans rfl rfl
theorem er50_10 (φ : Nat → Nat) : r50_10 φ = [
  ⟨0, .N .mv, [.c (.int .i64 0)], none, 0⟩] := Eq.trans rfl rfl
theorem er50_11 (φ : Nat → Nat) : r50_11 φ = [
  ⟨0, .N .mv, [.n 10], none, 0⟩,
  ⟨1, .N (.fadd 0), [.n 6], none, 0⟩,
  ⟨2, .N .load1, [.l 0], none, 0⟩,
  ⟨3, .N (.bin .lss), [.l 2, .l 0], none, 0⟩] := Eq.trans rfl rfl
theorem er50_12 (φ : Nat → Nat) : r50_12 φ = [
  ⟨0, .N .mv, [.n 10], none, 0⟩,
  ⟨1, .N .mv, [.n 1], none, 0⟩,
  ⟨2, .N (.bin .neq), [.l 1, .l 0], none, 0⟩,
  ⟨3, .N .mv, [.l 0], none, 0⟩,
  ⟨4, .N .mv, [.n 10], some (.l 0, true), 0⟩,
  ⟨5, .N .mv, [.n 2], some (.l 1, true), 0⟩,
  ⟨6, .N (.bin .neq), [.l 1, .l 0], some (.l 2, true), 0⟩,
  ⟨7, .N .pick, [.l 3, .l 0, .c (.bool false)], none, 0⟩] := Eq.trans rfl rfl
theorem er50_13 (φ : Nat → Nat) : r50_13 φ = [
  ⟨0, .N .mv, [.n 9], none, 0⟩,
  ⟨1, .N .mv, [.n 10], none, 0⟩,
  ⟨2, .N (.bsl [.int .i64 0] 1 1 [(0, 1)]), [.l 0], none, 0⟩,
  ⟨3, .X (.app 1 8), [.l 2, .l 0], none, 0⟩,
  ⟨4, .N .mv, [.l 0], none, 0⟩] := Eq.trans rfl rfl
theorem er50_14 (φ : Nat → Nat) : r50_14 φ = [
  ⟨0, .N .mv, [.n 10], none, 0⟩,
  ⟨1, .N (.bin .add), [.l 0, .c (.int .i64 1)], none, 0⟩,
  ⟨2, .N .mv, [.l 0], none, 0⟩] := Eq.trans rfl rfl
theorem er50_16 (φ : Nat → Nat) : r50_16 φ = [
  ⟨0, .N (.loadN 2), [.n 6], none, 0⟩,
  ⟨1, .N .mv, [.n 8], none, 0⟩,
  ⟨2, .calli false (φ 43), [.l 1, .l 0], none, 0⟩,
  ⟨3, .N .mv, [.l 0], none, 0⟩,
  ⟨4, .N (.ext 0), [.l 0], none, 0⟩,
  ⟨5, .N (.ext 1), [.l 1], none, 0⟩,
  ⟨6, .N (.alloc [.int .i64 0, .nils]), [], none, 0⟩,
  ⟨7, .X (.store 2), [.l 0, .l 2], none, 0⟩,
  ⟨8, .N .mv, [.l 2], none, 0⟩] := Eq.trans rfl rfl
theorem er50_17 (φ : Nat → Nat) : r50_17 φ = [
  ⟨0, .N (.loadN 2), [.n 11], none, 0⟩,
  ⟨1, .N .mv, [.n 7], none, 0⟩,
  ⟨2, .calli false (φ 43), [.l 1, .l 0], none, 0⟩,
  ⟨3, .N .mv, [.l 0], none, 0⟩,
  ⟨4, .N (.ext 0), [.l 0], none, 0⟩,
  ⟨5, .N (.ext 1), [.l 1], none, 0⟩,
  ⟨6, .N (.alloc [.int .i64 0, .nils]), [], none, 0⟩,
  ⟨7, .X (.store 2), [.l 0, .l 2], none, 0⟩,
  ⟨8, .N .mv, [.l 2], none, 0⟩] := Eq.trans rfl rfl
theorem er50_18 (φ : Nat → Nat) : r50_18 φ = [
  ⟨0, .N (.loadN 2), [.n 6], none, 0⟩,
  ⟨1, .N .mv, [.n 7], none, 0⟩,
  ⟨2, .calli false (φ 43), [.l 1, .l 0], none, 0⟩,
  ⟨3, .N .mv, [.l 0], none, 0⟩,
  ⟨4, .N (.ext 0), [.l 0], none, 0⟩,
  ⟨5, .N (.ext 1), [.l 1], none, 0⟩,
  ⟨6, .N (.alloc [.int .i64 0, .nils]), [], none, 0⟩,
  ⟨7, .X (.store 2), [.l 0, .l 2], none, 0⟩,
  ⟨8, .N .mv, [.l 2], none, 0⟩] := Eq.trans rfl rfl
theorem er50_19 (φ : Nat → Nat) : r50_19 φ = [
  ⟨0, .N (.loadN 2), [.n 15], none, 0⟩,
  ⟨1, .N .mv, [.n 8], none, 0⟩,
  ⟨2, .N (.bin .sub), [.l 0, .c (.int .i64 1)], none, 0⟩,
  ⟨3, .calli false (φ 43), [.l 2, .l 0], none, 0⟩,
  ⟨4, .N .mv, [.l 0], none, 0⟩,
  ⟨5, .N (.ext 0), [.l 0], none, 0⟩,
  ⟨6, .N (.ext 1), [.l 1], none, 0⟩,
  ⟨7, .N (.alloc [.int .i64 0, .nils]), [], none, 0⟩,
  ⟨8, .X (.store 2), [.l 0, .l 2], none, 0⟩,
  ⟨9, .N .mv, [.l 2], none, 0⟩] := Eq.trans rfl rfl
theorem er50_20 (φ : Nat → Nat) : r50_20 φ = [
  ⟨0, .N (.loadN 2), [.n 6], none, 0⟩,
  ⟨1, .N .mv, [.n 9], none, 0⟩,
  ⟨2, .calli false (φ 40), [.l 1, .l 0], none, 0⟩,
  ⟨3, .N .mv, [.l 0], none, 0⟩,
  ⟨4, .N (.ext 0), [.l 0], none, 0⟩,
  ⟨5, .N (.ext 1), [.l 1], none, 0⟩,
  ⟨6, .N (.alloc [.int .i64 0, .nils]), [], none, 0⟩,
  ⟨7, .X (.store 2), [.l 0, .l 2], none, 0⟩,
  ⟨8, .N .mv, [.l 2], none, 0⟩] := Eq.trans rfl rfl
theorem er50_21 (φ : Nat → Nat) : r50_21 φ = [
  ⟨0, .N .mv, [.n 5], none, 0⟩,
  ⟨1, .N .mv, [.l 0], none, 0⟩,
  ⟨2, .N .mv, [.n 12], some (.l 0, true), 0⟩,
  ⟨3, .N (.bin .eql), [.l 0, .c (.int .i64 0)], some (.l 1, true), 0⟩,
  ⟨4, .N .pick, [.l 2, .l 0, .c (.bool false)], none, 0⟩,
  ⟨5, .N .mv, [.l 0], none, 0⟩,
  ⟨6, .N .mv, [.n 14], some (.l 0, true), 0⟩,
  ⟨7, .N (.bin .eql), [.l 0, .c (.int .i64 0)], some (.l 1, true), 0⟩,
  ⟨8, .N .pick, [.l 2, .l 0, .c (.bool false)], none, 0⟩,
  ⟨9, .N .mv, [.l 0], none, 0⟩,
  ⟨10, .N .mv, [.n 16], some (.l 0, true), 0⟩,
  ⟨11, .N (.bin .eql), [.l 0, .c (.int .i64 0)], some (.l 1, true), 0⟩,
  ⟨12, .N .pick, [.l 2, .l 0, .c (.bool false)], none, 0⟩,
  ⟨13, .N .mv, [.l 0], none, 0⟩,
  ⟨14, .N .mv, [.n 18], some (.l 0, true), 0⟩,
  ⟨15, .N (.bin .eql), [.l 0, .c (.int .i64 0)], some (.l 1, true), 0⟩,
  ⟨16, .N .pick, [.l 2, .l 0, .c (.bool false)], none, 0⟩,
  ⟨17, .N .mv, [.l 0], none, 0⟩,
  ⟨18, .N .mv, [.n 20], some (.l 0, true), 0⟩,
  ⟨19, .N (.bin .eql), [.l 0, .c (.int .i64 0)], some (.l 1, true), 0⟩,
  ⟨20, .N .pick, [.l 2, .l 0, .c (.bool false)], none, 0⟩,
  ⟨21, .N .mv, [.l 0], none, 0⟩,
  ⟨22, .N (.loadN 2), [.n 13], some (.l 0, true), 0⟩,
  ⟨23, .N (.loadN 2), [.n 19], some (.l 1, true), 0⟩,
  ⟨24, .calli true (φ 3), [.l 1, .l 0], some (.l 2, true), 0⟩,
  ⟨25, .N .pick, [.l 3, .l 0, .c (.bool false)], none, 0⟩,
  ⟨26, .N .mv, [.l 0], none, 0⟩,
  ⟨27, .N (.loadN 2), [.n 17], some (.l 0, true), 0⟩,
  ⟨28, .N (.loadN 2), [.n 19], some (.l 1, true), 0⟩,
  ⟨29, .calli true (φ 3), [.l 1, .l 0], some (.l 2, true), 0⟩,
  ⟨30, .N .pick, [.l 3, .l 0, .c (.bool false)], none, 0⟩,
  ⟨31, .N .mv, [.l 0], none, 0⟩] := Eq.trans rfl rfl
structure SL (A : AProg) (φ : Nat → Nat) : Prop where
  s : SC A φ
  del : ∀ n v es x, IsE v es → PVal A (φ 43) [gV n v, .int .i64 x] (gR (deleteE n es x))
theorem next_ne {a t N : Int} (ha : 0 ≤ a ∧ a < N) (ht : 0 ≤ t ∧ t < N - 1) : 0 ≤ (a + 1 + t).tmod N ∧ (a + 1 + t).tmod N < N ∧ a ≠ (a + 1 + t).tmod N := by
  rw [Int.tmod_eq_emod_of_nonneg (by omega)]
  rcases Int.lt_or_le (a + 1 + t) N with h | h
  · rw [Int.emod_eq_of_lt (by omega) h]; omega
  · rw [show a + 1 + t = (a + 1 + t - N) + N by omega, Int.add_emod_right, Int.emod_eq_of_lt (by omega) (by omega)]; omega
set_option maxHeartbeats 1000000 in
theorem w_SubLeaves (h : Has A (φ 50) (f50 φ)) (hS : PVal A (φ 38) [] (.bool true)) (g : SL A φ) (n : Int) (v : AV) (l : List Ed) (hv : IsE v l) (a0 b0 : Int) :
    PVal A (φ 50) [gV n v, .int .i64 a0, .int .i64 b0] (.bool true) := by
  have hsh := hS.eq
  have hone := hv.one
  have hcl := hv.closed
  have c0 := (g.s.of n 30 v l hv (by omega) (by omega)).eq
  have hR := any_right n l (most := 30) (by omega) (by omega)
  have hEl := anyE_len n 30 l
  have hNr := anyN_range (n := n) (most := 30) (by omega)
  generalize anyN n 30 = N at *
  generalize anyE n 30 l = E at *
  obtain ⟨N, rfl⟩ : ∃ M : Nat, N = (M : Int) := ⟨N.toNat, by omega⟩
  have iE := isE_r E
  refine pval_has h rfl ?_
  simp only [l50_15, b50, f50]
  by_cases h2 : (N : Int) < 2
  · simp [↓getD_z, ↓getD_s, -List.getD_eq_getElem?_getD, -Int.ofNat_toNat, -getElem?_pos, gz, ↓hid_k, ↓hid_o, ↓hid_q, ↓hid_v, ↓PO_nil, ↓PO_none, ↓PO_grd, ↓PD_nil, ↓PD_none, ↓PD_grd, ↓PDO_N, ↓PDO_X, ↓PDO_call, ↓PDO_calli, ↓PDO_callv, PDX_free, PDX_eq, ↓PStep_N, ↓PStep_X, ↓PStep_call, ↓PStep_calli, PStep_callv, ↓PC_skip, ↓PC_lab, ↓PC_ret, ↓PC_exit, ↓PC_reg, ↓PC_draw, ↓PC_seq, ↓PC_block, ↓PC_loop, ↓PC_scope, ↓PC_cond, ↓thenC_norm, ↓thenC_ret, ↓thenC_exit, ↓blockC_norm, ↓blockC_ret, ↓blockC_exit, ↓loopC_norm, ↓loopC_ret, ↓loopC_exit, ↓endR_ret, ↓endR_norm, resK_none, resK_t, resK_tt, KNO_val, KNO_new, KNO_ite, KNO_map, KXO_some, KXO_ite, KVA_t, KVA_f, KG_skip, KG_tt, KG_ff, KG_tf, KG_ft, KB_true, KB_false, KNOD_val, KNOD_new, KNOD_ite, n_mv, n_pick, n_bin, n_eqB, n_eqN, n_eqS, n_un, n_conv, n_fadd, n_faddV, n_fld1, n_fldN, n_idx, n_idxA, n_idxV, n_idxAV, n_ext, n_lenS, n_lenS0, n_lenV, n_lenT, n_lenA, n_min, n_max, n_build, n_mkfn, n_slc, n_slc0, n_slcV, n_slcA, n_load1, n_loadN, n_load1V, n_loadNV, n_alloc, n_box, n_bsl, n_mksl, n_nilcP, n_nilcV, n_nilcI, n_nilcF, x_store, x_clear0, x_clear, b_add, b_sub, b_mul, b_eql, b_neq, b_lss, b_leq, b_gtr, b_geq, b_and16, unV, ntouch, gather, hide, unhide, evalOpd, applyOuts, int_bne, int_beq, ite_bool, ite_int, one_bool, cells_bool, one_int, cells_int, one_str, cells_str, one_nilp, cells_nilp, one_ptr, cells_ptr, one_nils, cells_nils, one_sl, cells_sl, one_nilf, cells_nilf, one_fn, cells_fn, one_nili, cells_nili, one_mp, cells_mp, one_nilm, cells_nilm, one_iface, cells_iface, one_vs, cells_vs, one_vp, cells_vp, cells_agg, Nat.testBit, setAt_1, setAt_2, closeds_nil, closeds_cons, closed_bool, closed_int, closed_str, closed_nilp, closed_nils, closed_nilm, closed_nilf, closed_nili, closed_agg, closed_tup, closed_vs, closed_vp, closed_iface, closed_fn, closeds_cI, closeds_cE, viewA_closed, viewR_closed, AV.scal, AV.scal0, fillA, repA, part_bool, part_int, part_str, part_nilp, part_ptr, part_nils, part_sl, part_nilm, part_mp, part_nilf, part_fn, part_nili, part_iface, part_agg, part_vs, part_vp, viewA_sl1, vaSl_cells, wrap_0, wrap_1, wrap_2, wrap_m1, set_last, get_last, er50_0, er50_1, er50_2, er50_3, er50_4, er50_5, er50_6, er50_7, er50_8, er50_9, er50_10, er50_11, er50_12, er50_13, er50_14, er50_16, er50_17, er50_18, er50_19, er50_20, er50_21, hsh, hone, hcl, c0, iE.closed, iE.one, iE.cells, h2, resK, resVs, resV, pack]
    try omega
  · have hN0 : (N : Int) ≠ 0 := by omega
    have hN1 : (N : Int) - 1 ≠ 0 := by omega
    have r1 : binV .rem (.int .i64 (a0 % 65536)) (.int .i64 (N : Int)) = some (.int .i64 ((a0 % 65536).tmod N)) := b_rem _ _ _ hN0
    have r2 : binV .rem (.int .i64 (b0 % 65536)) (.int .i64 ((N : Int) - 1)) = some (.int .i64 ((b0 % 65536).tmod ((N : Int) - 1))) := b_rem _ _ _ hN1
    have ra : 0 ≤ (a0 % 65536).tmod N ∧ (a0 % 65536).tmod N < N := by
      rw [Int.tmod_eq_emod_of_nonneg (Int.emod_nonneg _ (by decide))]
      exact ⟨Int.emod_nonneg _ (by omega), Int.emod_lt_of_pos _ (by omega)⟩
    have rt : 0 ≤ (b0 % 65536).tmod ((N : Int) - 1) ∧ (b0 % 65536).tmod ((N : Int) - 1) < (N : Int) - 1 := by
      rw [Int.tmod_eq_emod_of_nonneg (Int.emod_nonneg _ (by decide))]
      exact ⟨Int.emod_nonneg _ (by omega), Int.emod_lt_of_pos _ (by omega)⟩
    generalize (a0 % 65536).tmod N = a at *
    generalize (b0 % 65536).tmod ((N : Int) - 1) = t at *
    have r3 : binV .rem (.int .i64 (a + 1 + t)) (.int .i64 (N : Int)) = some (.int .i64 ((a + 1 + t).tmod N)) := b_rem _ _ _ hN0
    obtain ⟨rb1, rb2, hab⟩ := next_ne ra rt
    have w1 : IntKind.i64.wrap (a + 1) = a + 1 := wrap_in (by omega) (by omega)
    have w2 : IntKind.i64.wrap ((N : Int) - 1) = (N : Int) - 1 := wrap_in (by omega) (by omega)
    have w3 : IntKind.i64.wrap (a + 1 + t) = a + 1 + t := wrap_in (by omega) (by omega)
    generalize (a + 1 + t).tmod N = b at *
    have m1 := minV_i a b
    have m2 := maxV_i a b
    obtain ⟨one, three, G, d1, d2, d3, d4, d5⟩ := leaves (lo := min a b) (hi := max a b) hR ra ⟨rb1, rb2⟩ hab rfl rfl
    have hlh : 0 ≤ min a b ∧ max a b < N ∧ 0 ≤ max a b := by omega
    generalize min a b = lo at *
    generalize max a b = hi at *
    have w4 : IntKind.i64.wrap (hi - 1) = hi - 1 := wrap_in (by omega) (by omega)
    simp [↓getD_z, ↓getD_s, -List.getD_eq_getElem?_getD, -Int.ofNat_toNat, -getElem?_pos, gz, ↓hid_k, ↓hid_o, ↓hid_q, ↓hid_v, ↓PO_nil, ↓PO_none, ↓PO_grd, ↓PD_nil, ↓PD_none, ↓PD_grd, ↓PDO_N, ↓PDO_X, ↓PDO_call, ↓PDO_calli, ↓PDO_callv, PDX_free, PDX_eq, ↓PStep_N, ↓PStep_X, ↓PStep_call, ↓PStep_calli, PStep_callv, ↓PC_skip, ↓PC_lab, ↓PC_ret, ↓PC_exit, ↓PC_reg, ↓PC_draw, ↓PC_seq, ↓PC_block, ↓PC_loop, ↓PC_scope, ↓PC_cond, ↓thenC_norm, ↓thenC_ret, ↓thenC_exit, ↓blockC_norm, ↓blockC_ret, ↓blockC_exit, ↓loopC_norm, ↓loopC_ret, ↓loopC_exit, ↓endR_ret, ↓endR_norm, resK_none, resK_t, resK_tt, KNO_val, KNO_new, KNO_ite, KNO_map, KXO_some, KXO_ite, KVA_t, KVA_f, KG_skip, KG_tt, KG_ff, KG_tf, KG_ft, KB_true, KB_false, KNOD_val, KNOD_new, KNOD_ite, n_mv, n_pick, n_bin, n_eqB, n_eqN, n_eqS, n_un, n_conv, n_fadd, n_faddV, n_fld1, n_fldN, n_idx, n_idxA, n_idxV, n_idxAV, n_ext, n_lenS, n_lenS0, n_lenV, n_lenT, n_lenA, n_min, n_max, n_build, n_mkfn, n_slc, n_slc0, n_slcV, n_slcA, n_load1, n_loadN, n_load1V, n_loadNV, n_alloc, n_box, n_bsl, n_mksl, n_nilcP, n_nilcV, n_nilcI, n_nilcF, x_store, x_clear0, x_clear, b_add, b_sub, b_mul, b_eql, b_neq, b_lss, b_leq, b_gtr, b_geq, b_and16, unV, ntouch, gather, hide, unhide, evalOpd, applyOuts, int_bne, int_beq, ite_bool, ite_int, one_bool, cells_bool, one_int, cells_int, one_str, cells_str, one_nilp, cells_nilp, one_ptr, cells_ptr, one_nils, cells_nils, one_sl, cells_sl, one_nilf, cells_nilf, one_fn, cells_fn, one_nili, cells_nili, one_mp, cells_mp, one_nilm, cells_nilm, one_iface, cells_iface, one_vs, cells_vs, one_vp, cells_vp, cells_agg, Nat.testBit, setAt_1, setAt_2, closeds_nil, closeds_cons, closed_bool, closed_int, closed_str, closed_nilp, closed_nils, closed_nilm, closed_nilf, closed_nili, closed_agg, closed_tup, closed_vs, closed_vp, closed_iface, closed_fn, closeds_cI, closeds_cE, viewA_closed, viewR_closed, AV.scal, AV.scal0, fillA, repA, part_bool, part_int, part_str, part_nilp, part_ptr, part_nils, part_sl, part_nilm, part_mp, part_nilf, part_fn, part_nili, part_iface, part_agg, part_vs, part_vp, viewA_sl1, vaSl_cells, wrap_0, wrap_1, wrap_2, wrap_m1, set_last, get_last, er50_0, er50_1, er50_2, er50_3, er50_4, er50_5, er50_6, er50_7, er50_8, er50_9, er50_10, er50_11, er50_12, er50_13, er50_14, er50_16, er50_17, er50_18, er50_19, er50_20, er50_21, hsh, hone, hcl, c0, iE.closed, iE.one, iE.cells, h2, r1, r2, r3, w1, w2, w3, m1, m2, foldV]
    refine pc_loopI (fun m st => ∃ (k : Nat) (o p22 p23 : AV) (H : Heap), k + m = N ∧ OwnI false 2 H o (othersI a b k) ∧ H[1]? = some (.cells 0 false [.int .i64 (N : Int), rE E]) ∧
      st = ([gV n v, .int .i64 a, .int .i64 b, .ptr 0 0 0, .bool false, .bool true, .ptr 1 0 0, .int .i64 lo, .int .i64 hi, o, .int .i64 k, .un, .un, .un, .un, .un, .un, .un, .un, .un, .un, .bool false, p22, p23], H)) N
      ⟨0, _, _, _, _, by simp, own_empty _ _ _ _ _ _, rfl, rfl⟩ ?_
    rintro m st ⟨k, o, p22, p23, H, hk, ho, g1, rfl⟩
    by_cases hlt : k < N
    · have hlt' : (k : Int) < N := by omega
      have hw1 := wrap1 hlt (by omega)
      have hsn := others_snoc a b k
      have hol := others_len ra.1 rb1 hab k
      by_cases q1 : (k : Int) = a
      · rw [if_neg (by omega), List.append_nil] at hsn
        subst q1
        simp [↓getD_z, ↓getD_s, -List.getD_eq_getElem?_getD, -Int.ofNat_toNat, -getElem?_pos, gz, ↓hid_k, ↓hid_o, ↓hid_q, ↓hid_v, ↓PO_nil, ↓PO_none, ↓PO_grd, ↓PD_nil, ↓PD_none, ↓PD_grd, ↓PDO_N, ↓PDO_X, ↓PDO_call, ↓PDO_calli, ↓PDO_callv, PDX_free, PDX_eq, ↓PStep_N, ↓PStep_X, ↓PStep_call, ↓PStep_calli, PStep_callv, ↓PC_skip, ↓PC_lab, ↓PC_ret, ↓PC_exit, ↓PC_reg, ↓PC_draw, ↓PC_seq, ↓PC_block, ↓PC_loop, ↓PC_scope, ↓PC_cond, ↓thenC_norm, ↓thenC_ret, ↓thenC_exit, ↓blockC_norm, ↓blockC_ret, ↓blockC_exit, ↓loopC_norm, ↓loopC_ret, ↓loopC_exit, ↓endR_ret, ↓endR_norm, resK_none, resK_t, resK_tt, KNO_val, KNO_new, KNO_ite, KNO_map, KXO_some, KXO_ite, KVA_t, KVA_f, KG_skip, KG_tt, KG_ff, KG_tf, KG_ft, KB_true, KB_false, KNOD_val, KNOD_new, KNOD_ite, n_mv, n_pick, n_bin, n_eqB, n_eqN, n_eqS, n_un, n_conv, n_fadd, n_faddV, n_fld1, n_fldN, n_idx, n_idxA, n_idxV, n_idxAV, n_ext, n_lenS, n_lenS0, n_lenV, n_lenT, n_lenA, n_min, n_max, n_build, n_mkfn, n_slc, n_slc0, n_slcV, n_slcA, n_load1, n_loadN, n_load1V, n_loadNV, n_alloc, n_box, n_bsl, n_mksl, n_nilcP, n_nilcV, n_nilcI, n_nilcF, x_store, x_clear0, x_clear, b_add, b_sub, b_mul, b_eql, b_neq, b_lss, b_leq, b_gtr, b_geq, b_and16, unV, ntouch, gather, hide, unhide, evalOpd, applyOuts, int_bne, int_beq, ite_bool, ite_int, one_bool, cells_bool, one_int, cells_int, one_str, cells_str, one_nilp, cells_nilp, one_ptr, cells_ptr, one_nils, cells_nils, one_sl, cells_sl, one_nilf, cells_nilf, one_fn, cells_fn, one_nili, cells_nili, one_mp, cells_mp, one_nilm, cells_nilm, one_iface, cells_iface, one_vs, cells_vs, one_vp, cells_vp, cells_agg, Nat.testBit, setAt_1, setAt_2, closeds_nil, closeds_cons, closed_bool, closed_int, closed_str, closed_nilp, closed_nils, closed_nilm, closed_nilf, closed_nili, closed_agg, closed_tup, closed_vs, closed_vp, closed_iface, closed_fn, closeds_cI, closeds_cE, viewA_closed, viewR_closed, AV.scal, AV.scal0, fillA, repA, part_bool, part_int, part_str, part_nilp, part_ptr, part_nils, part_sl, part_nilm, part_mp, part_nilf, part_fn, part_nili, part_iface, part_agg, part_vs, part_vp, viewA_sl1, vaSl_cells, wrap_0, wrap_1, wrap_2, wrap_m1, set_last, get_last, er50_0, er50_1, er50_2, er50_3, er50_4, er50_5, er50_6, er50_7, er50_8, er50_9, er50_10, er50_11, er50_12, er50_13, er50_14, er50_16, er50_17, er50_18, er50_19, er50_20, er50_21, g1, hlt, hw1]
        exact next_mk (m - 1) (by omega) ⟨k + 1, o, _, _, H, by omega, by rw [hsn]; exact ho, g1, rfl⟩
      · by_cases q2 : (k : Int) = b
        · rw [if_neg (by omega), List.append_nil] at hsn
          subst q2
          have q3 : ¬ a = (k : Int) := fun h => q1 h.symm
          simp [↓getD_z, ↓getD_s, -List.getD_eq_getElem?_getD, -Int.ofNat_toNat, -getElem?_pos, gz, ↓hid_k, ↓hid_o, ↓hid_q, ↓hid_v, ↓PO_nil, ↓PO_none, ↓PO_grd, ↓PD_nil, ↓PD_none, ↓PD_grd, ↓PDO_N, ↓PDO_X, ↓PDO_call, ↓PDO_calli, ↓PDO_callv, PDX_free, PDX_eq, ↓PStep_N, ↓PStep_X, ↓PStep_call, ↓PStep_calli, PStep_callv, ↓PC_skip, ↓PC_lab, ↓PC_ret, ↓PC_exit, ↓PC_reg, ↓PC_draw, ↓PC_seq, ↓PC_block, ↓PC_loop, ↓PC_scope, ↓PC_cond, ↓thenC_norm, ↓thenC_ret, ↓thenC_exit, ↓blockC_norm, ↓blockC_ret, ↓blockC_exit, ↓loopC_norm, ↓loopC_ret, ↓loopC_exit, ↓endR_ret, ↓endR_norm, resK_none, resK_t, resK_tt, KNO_val, KNO_new, KNO_ite, KNO_map, KXO_some, KXO_ite, KVA_t, KVA_f, KG_skip, KG_tt, KG_ff, KG_tf, KG_ft, KB_true, KB_false, KNOD_val, KNOD_new, KNOD_ite, n_mv, n_pick, n_bin, n_eqB, n_eqN, n_eqS, n_un, n_conv, n_fadd, n_faddV, n_fld1, n_fldN, n_idx, n_idxA, n_idxV, n_idxAV, n_ext, n_lenS, n_lenS0, n_lenV, n_lenT, n_lenA, n_min, n_max, n_build, n_mkfn, n_slc, n_slc0, n_slcV, n_slcA, n_load1, n_loadN, n_load1V, n_loadNV, n_alloc, n_box, n_bsl, n_mksl, n_nilcP, n_nilcV, n_nilcI, n_nilcF, x_store, x_clear0, x_clear, b_add, b_sub, b_mul, b_eql, b_neq, b_lss, b_leq, b_gtr, b_geq, b_and16, unV, ntouch, gather, hide, unhide, evalOpd, applyOuts, int_bne, int_beq, ite_bool, ite_int, one_bool, cells_bool, one_int, cells_int, one_str, cells_str, one_nilp, cells_nilp, one_ptr, cells_ptr, one_nils, cells_nils, one_sl, cells_sl, one_nilf, cells_nilf, one_fn, cells_fn, one_nili, cells_nili, one_mp, cells_mp, one_nilm, cells_nilm, one_iface, cells_iface, one_vs, cells_vs, one_vp, cells_vp, cells_agg, Nat.testBit, setAt_1, setAt_2, closeds_nil, closeds_cons, closed_bool, closed_int, closed_str, closed_nilp, closed_nils, closed_nilm, closed_nilf, closed_nili, closed_agg, closed_tup, closed_vs, closed_vp, closed_iface, closed_fn, closeds_cI, closeds_cE, viewA_closed, viewR_closed, AV.scal, AV.scal0, fillA, repA, part_bool, part_int, part_str, part_nilp, part_ptr, part_nils, part_sl, part_nilm, part_mp, part_nilf, part_fn, part_nili, part_iface, part_agg, part_vs, part_vp, viewA_sl1, vaSl_cells, wrap_0, wrap_1, wrap_2, wrap_m1, set_last, get_last, er50_0, er50_1, er50_2, er50_3, er50_4, er50_5, er50_6, er50_7, er50_8, er50_9, er50_10, er50_11, er50_12, er50_13, er50_14, er50_16, er50_17, er50_18, er50_19, er50_20, er50_21, g1, hlt, q1, q3, hw1]
          exact next_mk (m - 1) (by omega) ⟨k + 1, o, _, _, H, by omega, by rw [hsn]; exact ho, g1, rfl⟩
        · rw [if_pos ⟨q1, q2⟩] at hsn
          obtain ⟨o1, H1, x1, x2, x3, x4, _, _⟩ := OwnI.app1 ho (k : Int) (lt_of_get g1) (by split at hol <;> split at hol <;> omega)
          simp [↓getD_z, ↓getD_s, -List.getD_eq_getElem?_getD, -Int.ofNat_toNat, -getElem?_pos, gz, ↓hid_k, ↓hid_o, ↓hid_q, ↓hid_v, ↓PO_nil, ↓PO_none, ↓PO_grd, ↓PD_nil, ↓PD_none, ↓PD_grd, ↓PDO_N, ↓PDO_X, ↓PDO_call, ↓PDO_calli, ↓PDO_callv, PDX_free, PDX_eq, ↓PStep_N, ↓PStep_X, ↓PStep_call, ↓PStep_calli, PStep_callv, ↓PC_skip, ↓PC_lab, ↓PC_ret, ↓PC_exit, ↓PC_reg, ↓PC_draw, ↓PC_seq, ↓PC_block, ↓PC_loop, ↓PC_scope, ↓PC_cond, ↓thenC_norm, ↓thenC_ret, ↓thenC_exit, ↓blockC_norm, ↓blockC_ret, ↓blockC_exit, ↓loopC_norm, ↓loopC_ret, ↓loopC_exit, ↓endR_ret, ↓endR_norm, resK_none, resK_t, resK_tt, KNO_val, KNO_new, KNO_ite, KNO_map, KXO_some, KXO_ite, KVA_t, KVA_f, KG_skip, KG_tt, KG_ff, KG_tf, KG_ft, KB_true, KB_false, KNOD_val, KNOD_new, KNOD_ite, n_mv, n_pick, n_bin, n_eqB, n_eqN, n_eqS, n_un, n_conv, n_fadd, n_faddV, n_fld1, n_fldN, n_idx, n_idxA, n_idxV, n_idxAV, n_ext, n_lenS, n_lenS0, n_lenV, n_lenT, n_lenA, n_min, n_max, n_build, n_mkfn, n_slc, n_slc0, n_slcV, n_slcA, n_load1, n_loadN, n_load1V, n_loadNV, n_alloc, n_box, n_bsl, n_mksl, n_nilcP, n_nilcV, n_nilcI, n_nilcF, x_store, x_clear0, x_clear, b_add, b_sub, b_mul, b_eql, b_neq, b_lss, b_leq, b_gtr, b_geq, b_and16, unV, ntouch, gather, hide, unhide, evalOpd, applyOuts, int_bne, int_beq, ite_bool, ite_int, one_bool, cells_bool, one_int, cells_int, one_str, cells_str, one_nilp, cells_nilp, one_ptr, cells_ptr, one_nils, cells_nils, one_sl, cells_sl, one_nilf, cells_nilf, one_fn, cells_fn, one_nili, cells_nili, one_mp, cells_mp, one_nilm, cells_nilm, one_iface, cells_iface, one_vs, cells_vs, one_vp, cells_vp, cells_agg, Nat.testBit, setAt_1, setAt_2, closeds_nil, closeds_cons, closed_bool, closed_int, closed_str, closed_nilp, closed_nils, closed_nilm, closed_nilf, closed_nili, closed_agg, closed_tup, closed_vs, closed_vp, closed_iface, closed_fn, closeds_cI, closeds_cE, viewA_closed, viewR_closed, AV.scal, AV.scal0, fillA, repA, part_bool, part_int, part_str, part_nilp, part_ptr, part_nils, part_sl, part_nilm, part_mp, part_nilf, part_fn, part_nili, part_iface, part_agg, part_vs, part_vp, viewA_sl1, vaSl_cells, wrap_0, wrap_1, wrap_2, wrap_m1, set_last, get_last, er50_0, er50_1, er50_2, er50_3, er50_4, er50_5, er50_6, er50_7, er50_8, er50_9, er50_10, er50_11, er50_12, er50_13, er50_14, er50_16, er50_17, er50_18, er50_19, er50_20, er50_21, g1, hlt, q1, q2, x1, hw1]
          exact next_mk (m - 1) (by omega) ⟨k + 1, o1, _, _, H1, by omega, by rw [hsn]; exact x2, by rw [x3 1 (by omega)]; exact g1, rfl⟩
    · have hke : k = N := by omega
      subst hke
      have hlt' : ¬ (k : Int) < (k : Int) := by omega
      have o1 := isE_r one
      have o3 := isE_r three
      have oG := isE_r G
      have oi : IsI (rv false (othersI a b k).length 1 (cI (othersI a b k))) (othersI a b k) := is_rv (by simp [cI]) (closeds_cI _)
      have hol := others_len ra.1 rb1 hab k
      have hol2 : (othersI a b k).length ≤ 100000 := by rw [if_pos ra.2, if_pos rb2] at hol; omega
      have c1 := (g.del k _ E hi iE).eq
      have c2 := (g.del ((k : Int) - 1) _ one lo o1).eq
      have c3 := (g.del k _ E lo iE).eq
      have c4 := (g.del ((k : Int) - 1) _ three (hi - 1) o3).eq
      have c5 := (g.s.ind k _ E _ (othersI a b k) iE oi hol2).eq
      have hGl : G.length < 1000000000000 := by
        have := induced_len k E (othersI a b k)
        rw [d5] at this; simp only at this; omega
      have c6 := (g.s.sameG ((k : Int) - 2) ((k : Int) - 2) _ _ _ _ oG oG hGl).eq
      simp only [d1, d2, d3, d4, d5, gR] at c1 c2 c3 c4 c5
      have g1J : ∀ J, (H ++ J)[1]? = some (.cells 0 false [.int .i64 (k : Int), rE E]) := fun J => get_more J g1
      have vi : ∀ J, viewA (H ++ J) [gV k (rE E), o] = some ([gV k (rE E), rv false (othersI a b k).length 1 (cI (othersI a b k))], frzOf (H ++ J) o) := fun J => (Own.vw (ho.more J)).r2 (closeds_cI _) _ (by simp only [AV.closed, closeds_cons, iE.closed]; rfl)
      have hob : ∀ b, blkOf o = some b → b < H.length := fun b hb => (Own.blk ho hb).2
      have hFJ : ∀ (J : Heap) (j : Nat), (frzOf (H ++ J) o)[H.length + j]? = J[j]? := fun J j => by
        rw [frzOf_get _ _ (fun h => by have := hob _ h; omega)]; exact get_at H J j
      have hFJ0 : ∀ (J : Heap), (frzOf (H ++ J) o)[H.length]? = J[0]? := fun J => hFJ J 0
      generalize rE E = uE at *
      generalize rE one = u1 at *
      generalize rE three = u3 at *
      generalize rE G = uG at *
      generalize rv false (othersI a b k).length 1 (cI (othersI a b k)) = ui at *
      have hJ4 : ∀ (J K : Heap) (j : Nat) (x : Ob), J[j]? = some x → (frzOf (H ++ J) o ++ K)[H.length + j]? = some x := fun J K j x h => get_more K ((hFJ J j).trans h)
      have j1 := hJ4 [.cells 0 false [.int .i64 ((k : Int) - 1), u1], .cells 0 false [.int .i64 ((k : Int) - 2), uG], .cells 0 false [.int .i64 ((k : Int) - 1), u3], .cells 0 false [.int .i64 ((k : Int) - 2), uG]] [.cells 0 false [.int .i64 ((k : Int) - 2), uG]] 1 _ rfl
      have j3 := hJ4 [.cells 0 false [.int .i64 ((k : Int) - 1), u1], .cells 0 false [.int .i64 ((k : Int) - 2), uG], .cells 0 false [.int .i64 ((k : Int) - 1), u3], .cells 0 false [.int .i64 ((k : Int) - 2), uG]] [.cells 0 false [.int .i64 ((k : Int) - 2), uG]] 3 _ rfl
      simp [↓getD_z, ↓getD_s, -List.getD_eq_getElem?_getD, -Int.ofNat_toNat, -getElem?_pos, gz, ↓hid_k, ↓hid_o, ↓hid_q, ↓hid_v, ↓PO_nil, ↓PO_none, ↓PO_grd, ↓PD_nil, ↓PD_none, ↓PD_grd, ↓PDO_N, ↓PDO_X, ↓PDO_call, ↓PDO_calli, ↓PDO_callv, PDX_free, PDX_eq, ↓PStep_N, ↓PStep_X, ↓PStep_call, ↓PStep_calli, PStep_callv, ↓PC_skip, ↓PC_lab, ↓PC_ret, ↓PC_exit, ↓PC_reg, ↓PC_draw, ↓PC_seq, ↓PC_block, ↓PC_loop, ↓PC_scope, ↓PC_cond, ↓thenC_norm, ↓thenC_ret, ↓thenC_exit, ↓blockC_norm, ↓blockC_ret, ↓blockC_exit, ↓loopC_norm, ↓loopC_ret, ↓loopC_exit, ↓endR_ret, ↓endR_norm, resK_none, resK_t, resK_tt, KNO_val, KNO_new, KNO_ite, KNO_map, KXO_some, KXO_ite, KVA_t, KVA_f, KG_skip, KG_tt, KG_ff, KG_tf, KG_ft, KB_true, KB_false, KNOD_val, KNOD_new, KNOD_ite, n_mv, n_pick, n_bin, n_eqB, n_eqN, n_eqS, n_un, n_conv, n_fadd, n_faddV, n_fld1, n_fldN, n_idx, n_idxA, n_idxV, n_idxAV, n_ext, n_lenS, n_lenS0, n_lenV, n_lenT, n_lenA, n_min, n_max, n_build, n_mkfn, n_slc, n_slc0, n_slcV, n_slcA, n_load1, n_loadN, n_load1V, n_loadNV, n_alloc, n_box, n_bsl, n_mksl, n_nilcP, n_nilcV, n_nilcI, n_nilcF, x_store, x_clear0, x_clear, b_add, b_sub, b_mul, b_eql, b_neq, b_lss, b_leq, b_gtr, b_geq, b_and16, unV, ntouch, gather, hide, unhide, evalOpd, applyOuts, int_bne, int_beq, ite_bool, ite_int, one_bool, cells_bool, one_int, cells_int, one_str, cells_str, one_nilp, cells_nilp, one_ptr, cells_ptr, one_nils, cells_nils, one_sl, cells_sl, one_nilf, cells_nilf, one_fn, cells_fn, one_nili, cells_nili, one_mp, cells_mp, one_nilm, cells_nilm, one_iface, cells_iface, one_vs, cells_vs, one_vp, cells_vp, cells_agg, Nat.testBit, setAt_1, setAt_2, closeds_nil, closeds_cons, closed_bool, closed_int, closed_str, closed_nilp, closed_nils, closed_nilm, closed_nilf, closed_nili, closed_agg, closed_tup, closed_vs, closed_vp, closed_iface, closed_fn, closeds_cI, closeds_cE, viewA_closed, viewR_closed, AV.scal, AV.scal0, fillA, repA, part_bool, part_int, part_str, part_nilp, part_ptr, part_nils, part_sl, part_nilm, part_mp, part_nilf, part_fn, part_nili, part_iface, part_agg, part_vs, part_vp, viewA_sl1, vaSl_cells, wrap_0, wrap_1, wrap_2, wrap_m1, set_last, get_last, er50_0, er50_1, er50_2, er50_3, er50_4, er50_5, er50_6, er50_7, er50_8, er50_9, er50_10, er50_11, er50_12, er50_13, er50_14, er50_16, er50_17, er50_18, er50_19, er50_20, er50_21, j1, j3, g1, g1J, c1, c2, c3, c4, c5, c6, w4, vi, iE.closed, iE.one, iE.cells, o1.closed, o1.one, o1.cells, o3.closed, o3.one, o3.cells, oG.closed, oG.one, oG.cells, oi.closed, get_at, get_at0, set_at, set_at0, resK, resVs, resV, pack]
end Go.Ai.G
