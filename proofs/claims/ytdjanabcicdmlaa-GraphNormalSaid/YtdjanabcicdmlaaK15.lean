/- A part of what the law leans on: the abstract machine, the contracts, the rows. -/
import Derived.Test.YtdjanabcicdmlaaK12
import Derived.Test.YtdjanabcicdmlaaK14
import Derived.Test.YtdjanabcicdmlaaK5
/- What graph.Has and graph.Near tell, against the reference; all contracts together. -/
namespace Go.Ai.G
open Go.Ai
set_option linter.unusedVariables false
set_option linter.unusedSimpArgs false
variable {A : AProg} {φ : Nat → Nat}
def nbo (v : Int) (x : Ed) : List Int := (if x.2 = v then [x.1] else []) ++ (if x.1 = v then [x.2] else [])
theorem nbs_all (v : Int) : ∀ (es : List Ed), es.Pairwise ltE → (∀ x ∈ es, x.1 < x.2) → nbs v es = es.flatMap (nbo v)
  | [], _, _ => rfl
  | x :: l, hp, hx => by
    rw [List.pairwise_cons] at hp
    simp only [nbs]
    split
    · rename_i h
      symm
      rw [List.flatMap_eq_nil_iff]
      intro y hy
      have hxy : x.1 ≤ y.1 := by
        rcases List.mem_cons.1 hy with rfl | hy
        · exact Int.le_refl _
        · have := hp.1 y hy; unfold ltE at this; omega
      have := hx y hy
      simp only [nbo]
      rw [if_neg (by omega), if_neg (by omega)]; rfl
    · rw [List.flatMap_cons, nbs_all v l hp.2 (fun y hy => hx y (List.mem_cons_of_mem _ hy)), nbo]
theorem nbo_sorted (v : Int) (es : List Ed) (hp : es.Pairwise ltE) (hx : ∀ x ∈ es, x.1 < x.2) : (es.flatMap (nbo v)).Pairwise (· ≤ ·) := by
  rw [List.pairwise_flatMap]
  constructor
  · intro x hm
    have := hx x hm
    unfold nbo
    by_cases h1 : x.2 = v
    · rw [if_pos h1, if_neg (by omega)]; simp
    · rw [if_neg h1]; split <;> simp
  · refine List.Pairwise.imp_of_mem ?_ hp
    intro x y hmx hmy hl p hp q hq
    have h1 := hx x hmx
    have h2 := hx y hmy
    unfold ltE at hl
    simp only [nbo, List.mem_append] at hp hq
    by_cases a1 : x.2 = v <;> by_cases a2 : x.1 = v <;> by_cases a3 : y.2 = v <;> by_cases a4 : y.1 = v <;> simp [a1, a2, a3, a4] at hp hq <;> omega
theorem nbo_perm (v : Int) : ∀ (es : List Ed), (es.flatMap (nbo v)).Perm (nbR v es)
  | [] => List.Perm.refl _
  | x :: l => by
    simp only [nbR, List.flatMap_cons]
    refine List.Perm.append ?_ (nbo_perm v l)
    unfold nbo nbr
    by_cases h1 : x.1 = v <;> by_cases h2 : x.2 = v <;> simp [h1, h2] <;> first | exact List.Perm.swap _ _ _ | exact List.Perm.refl _ | skip
theorem right_lt {n : Int} {es : List Ed} (h : rightE n es = true) : ∀ x ∈ es, x.1 < x.2 := by
  intro x hx
  obtain ⟨i, hi, rfl⟩ := List.getElem_of_mem hx
  exact (right_step h hi).2.1
theorem near_sort {n : Int} {es : List Ed} (a : Int) (h : rightE n es = true) : nbs a es = sortI (nbR a es) := by
  rw [nbs_all a es (right_strict h) (right_lt h)]
  exact (sortI_of (nbo_sorted a es (right_strict h) (right_lt h)) (nbo_perm a es)).symm
theorem nearI_eq (n : Int) (es : List Ed) (a : Int) : nearI n es a = if rightE n es then sortI (nbR a es) else [] := by
  unfold nearI
  split
  · rename_i h; exact near_sort a h
  · rfl
theorem has_eq (n : Int) (es : List Ed) (a b : Int) : (nearI n es a).contains b = hasE n es a b := by
  unfold nearI hasE
  cases h : rightE n es with
  | false => simp
  | true =>
    rw [if_pos rfl, nbs_all a es (right_strict h) (right_lt h), Bool.true_and, Bool.eq_iff_iff]
    simp only [List.contains_iff_mem, List.mem_flatMap, nbo, List.mem_append, Bool.or_eq_true, decide_eq_true_eq]
    constructor
    · rintro ⟨⟨x, y⟩, hm, h | h⟩
      · simp only at h; split at h
        · rename_i e; simp at h; subst h; subst e; exact .inr hm
        · simp at h
      · simp only at h; split at h
        · rename_i e; simp at h; subst h; subst e; exact .inl hm
        · simp at h
    · rintro (h | h)
      · exact ⟨_, h, .inr (by simp)⟩
      · exact ⟨_, h, .inl (by simp)⟩
/-- All that the laws ask of the graph's functions and of the reference's. -/
structure GC (A : AProg) (φ : Nat → Nat) : Prop where
  normal : NormalC A (φ 1)
  rnormal : NormalC A (φ 2)
  right : RightC A (φ 4)
  rright : RightC A (φ 6)
  has : ∀ n a b v es, IsE v es → PVal A (φ 7) [gV n v, .int .i64 a, .int .i64 b] (.bool (hasE n es a b))
  rhas : ∀ n a b v es, IsE v es → PVal A (φ 8) [gV n v, .int .i64 a, .int .i64 b] (.bool (hasE n es a b))
  near : ∀ n a v es, IsE v es → PVal A (φ 9) [gV n v, .int .i64 a] (rI (if rightE n es then sortI (nbR a es) else []))
  rnear : ∀ n a v es, IsE v es → PVal A (φ 10) [gV n v, .int .i64 a] (vI (if rightE n es then sortI (nbR a es) else []))
  degrees : ∀ n v es, IsE v es → PVal A (φ 12) [gV n v] (if rightE n es then vI (degs n es) else .nils)
  rdegrees : ∀ n v es, IsE v es → PVal A (φ 13) [gV n v] (vI (if rightE n es then degs n es else []))
  add : ∀ n a b v es, IsE v es → PVal A (φ 15) [gV n v, .int .i64 a, .int .i64 b] (gR (addE n es a b))
  radd : ∀ n a b v es, IsE v es → PVal A (φ 16) [gV n v, .int .i64 a, .int .i64 b] (gR (addE n es a b))
  without : ∀ n a b v es, IsE v es → PVal A (φ 17) [gV n v, .int .i64 a, .int .i64 b] (gW (withoutE n es a b))
  rwithout : ∀ n a b v es, IsE v es → PVal A (φ 18) [gV n v, .int .i64 a, .int .i64 b] (gR (withoutE n es a b))
  same : ∀ v u xs ys, IsI v xs → IsI u ys → xs.length < 1000000000000 → PVal A (φ 11) [v, u] (.bool (decide (xs = ys)))
  sameE : ∀ v u xs ys, IsE v xs → IsE u ys → xs.length < 1000000000000 → PVal A (φ 23) [v, u] (.bool (decide (xs = ys)))
  sameG : ∀ n m v u xs ys, IsE v xs → IsE u ys → xs.length < 1000000000000 → PVal A (φ 3) [gV n v, gV m u] (.bool (decide (n = m ∧ xs = ys)))
  rin : ∀ v xs x, IsI v xs → xs.length < 1000000000000 → PVal A (φ 25) [v, .int .i64 x] (.bool (decide (x ∈ xs)))
  any : ∀ n most v l, IsE v l → l.length < 1000000000 → 0 ≤ most → most ≤ 1000 → PVal A (φ 22) [.int .i64 n, v, .int .i64 most] (gV (anyN n most) (rE (anyE n most l)))
/-- The functions, as this program bears them. -/
structure GH (A : AProg) (φ : Nat → Nat) : Prop where
  normal : Has A (φ 1) (f1 φ)
  rnormal : Has A (φ 2) (f2 φ)
  right : Has A (φ 4) (f4 φ)
  rright : Has A (φ 6) (f6 φ)
  rhas : Has A (φ 8) (f8 φ)
  rnear : Has A (φ 10) (f10 φ)
  degrees : Has A (φ 12) (f12 φ)
  rdegrees : Has A (φ 13) (f13 φ)
  add : Has A (φ 15) (f15 φ)
  radd : Has A (φ 16) (f16 φ)
  without : Has A (φ 17) (f17 φ)
  rwithout : Has A (φ 18) (f18 φ)
  same : Has A (φ 11) (f11 φ)
  sameE : Has A (φ 23) (f23 φ)
  sameG : Has A (φ 3) (f3 φ)
  rin : Has A (φ 25) (f25 φ)
  any : Has A (φ 22) (f22 φ)
  sorted : Has A (φ 30) (f30 φ)
  compare : Has A (φ 31) (f31 φ)
  cmp : Has A (φ 35) (f35 φ)
  nan : Has A (φ 37) (f37 φ)
  or : Has A (φ 36) (f36 φ)
  compact : Has A (φ 28) (f28 φ)
  clone : Has A (φ 32) (f32 φ)
  index : Has A (φ 33) (f33 φ)
  delete : Has A (φ 34) (f34 φ)
  sort : A.ext (φ 27) = some (sortExt (φ 29))
  hasx : A.ext (φ 7) = some hasExt
  nearx : A.ext (φ 9) = some nearExt
theorem GH.gc (h : GH A φ) : GC A φ := by
  have hcmp := w_compare h.compare h.cmp h.nan h.or
  have hR : RightC A (φ 4) := fun n v es hv => w_Right h.right hcmp n v es hv
  have hRR : RightC A (φ 6) := fun n v es hv => w_RRight h.rright n v es hv
  have hN : NormalC A (φ 1) := fun n v l hv hn => w_Normal h.normal h.sort h.compact n v l hv hn
  have hRN : NormalC A (φ 2) := fun n v l hv hn => w_RNormal h.rnormal h.rin h.sorted n v l hv hn
  have hRH := fun n a b v es (hv : IsE v es) => w_RHas h.rhas h.rright n a b v es hv
  exact {
    normal := hN, rnormal := hRN, right := hR, rright := hRR
    has := fun n a b v es hv => by rw [← has_eq]; exact pval_hasx h.hasx n a b v es hv
    rhas := hRH
    near := fun n a v es hv => by rw [← nearI_eq]; exact pval_near h.nearx n a v es hv
    rnear := fun n a v es hv => w_RNear h.rnear h.rright h.sorted n a v es hv
    degrees := fun n v es hv => w_Degrees h.degrees hR n v es hv
    rdegrees := fun n v es hv => w_RDegrees h.rdegrees h.rnear h.rright h.sorted n v es hv
    add := fun n a b v es hv => w_Add h.add hR hN h.clone n a b v es hv
    radd := fun n a b v es hv => w_RAdd h.radd hRR hRN n a b v es hv
    without := fun n a b v es hv => w_Without h.without hR h.index h.clone h.delete n a b v es hv
    rwithout := fun n a b v es hv => w_RWithout h.rwithout hRR hRH n a b v es hv
    same := fun v u xs ys hv hu hn => w_Same h.same v u xs ys hv hu hn
    sameE := fun v u xs ys hv hu hn => w_SameEdges h.sameE v u xs ys hv hu hn
    sameG := fun n m v u xs ys hv hu hn => w_SameGraph h.sameG h.sameE n m v u xs ys hv hu hn
    rin := fun v xs x hv hn => w_In h.rin v xs x hv hn
    any := fun n most v l hv hn h0 h1 => w_Any h.any hRN n most v l hv hn h0 h1 }
end Go.Ai.G
/- The laws of the chapter on graphs. -/
namespace Go.Ai.G
open Go.Ai
set_option maxRecDepth 100000
set_option linter.unusedSimpArgs false
set_option linter.unusedVariables false
variable {A : AProg} {φ : Nat → Nat}
theorem er5_0 (φ : Nat → Nat) : r5_0 φ = [
  ⟨0, .N .mv, [.c (.bool false)], none, 0⟩] := Eq.trans rfl rfl
theorem er5_1 (φ : Nat → Nat) : r5_1 φ = [
  ⟨0, .calli true (φ 0), [], none, 0⟩,
  ⟨1, .N .mv, [.l 0], none, 0⟩] := Eq.trans rfl rfl
theorem er5_2 (φ : Nat → Nat) : r5_2 φ = [
  ⟨0, .N .mv, [.n 1], none, 0⟩,
  ⟨1, .N .mv, [.n 1], none, 0⟩,
  ⟨2, .N .lenS, [.l 0], none, 0⟩,
  ⟨3, .N .min, [.l 0, .c (.int .i64 300)], none, 0⟩,
  ⟨4, .N (.slc 2 false true false), [.l 3, .l 0], none, 0⟩,
  ⟨5, .N .mv, [.l 0], none, 0⟩] := Eq.trans rfl rfl
theorem er5_3 (φ : Nat → Nat) : r5_3 φ = [
  ⟨0, .N .mv, [.n 0], none, 0⟩,
  ⟨1, .N .mv, [.n 1], none, 0⟩,
  ⟨2, .calli false (φ 1), [.l 1, .l 0], none, 0⟩,
  ⟨3, .N .mv, [.l 0], none, 0⟩,
  ⟨4, .N (.ext 0), [.l 0], none, 0⟩,
  ⟨5, .N (.ext 1), [.l 1], none, 0⟩,
  ⟨6, .N (.alloc [.int .i64 0, .nils]), [], none, 0⟩,
  ⟨7, .X (.store 2), [.l 0, .l 2], none, 0⟩,
  ⟨8, .N .mv, [.l 2], none, 0⟩] := Eq.trans rfl rfl
theorem er5_4 (φ : Nat → Nat) : r5_4 φ = [
  ⟨0, .N .mv, [.n 0], none, 0⟩,
  ⟨1, .N .mv, [.n 1], none, 0⟩,
  ⟨2, .calli false (φ 2), [.l 1, .l 0], none, 0⟩,
  ⟨3, .N .mv, [.l 0], none, 0⟩,
  ⟨4, .N (.ext 0), [.l 0], none, 0⟩,
  ⟨5, .N (.ext 1), [.l 1], none, 0⟩,
  ⟨6, .N (.alloc [.int .i64 0, .nils]), [], none, 0⟩,
  ⟨7, .X (.store 2), [.l 0, .l 2], none, 0⟩,
  ⟨8, .N .mv, [.l 2], none, 0⟩] := Eq.trans rfl rfl
theorem er5_5 (φ : Nat → Nat) : r5_5 φ = [
  ⟨0, .N .mv, [.n 3], none, 0⟩,
  ⟨1, .N .mv, [.l 0], none, 0⟩,
  ⟨2, .N .mv, [.n 5], some (.l 0, true), 0⟩,
  ⟨3, .N .mv, [.n 7], some (.l 1, true), 0⟩,
  ⟨4, .N (.bin .eql), [.l 1, .l 0], some (.l 2, true), 0⟩,
  ⟨5, .N .pick, [.l 3, .l 0, .c (.bool false)], none, 0⟩,
  ⟨6, .N .mv, [.l 0], none, 0⟩,
  ⟨7, .N (.loadN 2), [.n 4], some (.l 0, true), 0⟩,
  ⟨8, .N (.loadN 2), [.n 6], some (.l 1, true), 0⟩,
  ⟨9, .calli true (φ 3), [.l 1, .l 0], some (.l 2, true), 0⟩,
  ⟨10, .N .pick, [.l 3, .l 0, .c (.bool false)], none, 0⟩,
  ⟨11, .N .mv, [.l 0], none, 0⟩,
  ⟨12, .N .mv, [.n 5], some (.l 0, true), 0⟩,
  ⟨13, .N (.bin .neq), [.l 0, .c (.int .i64 0)], some (.l 1, true), 0⟩,
  ⟨14, .N .mv, [.l 0], some (.l 2, true), 0⟩,
  ⟨15, .N (.loadN 2), [.n 4], some (.l 0, false), 0⟩,
  ⟨16, .calli true (φ 4), [.l 0], some (.l 1, false), 0⟩,
  ⟨17, .N .pick, [.l 2, .c (.bool true), .l 0], some (.l 5, true), 0⟩,
  ⟨18, .N .pick, [.l 6, .l 0, .c (.bool false)], none, 0⟩,
  ⟨19, .N .mv, [.l 0], none, 0⟩] := Eq.trans rfl rfl
theorem isE_slc {v : AV} {l : List Ed} (h : IsE v l) (m : Nat) (hm : m ≤ l.length) : ∃ v', (∀ (k : IntKind) rd, nstep (.slc 2 false true false) [v, .int k (m : Int)] rd = some (.val v')) ∧ IsE v' (l.take m) := by
  obtain ⟨h1, h2, ⟨rfl, h3⟩ | rfl⟩ := h
  · have : l = [] := List.length_eq_zero_iff.1 h3
    subst this
    have : m = 0 := by simpa using hm
    subst this
    exact ⟨.nils, fun k rd => by rfl, isE_nil⟩
  · refine ⟨vE (l.take m), fun k rd => ?_, isE_v _⟩
    have hb : bounds3 l.length l.length false true false [.int k (m : Int)] = some (0, m, l.length) := by
      simp [bounds3, intArg, hm]
    rw [n_slcV, hb]
    simp only [Option.map_some, Bool.false_eq_true, false_and, if_false, Nat.zero_mul, List.drop_zero, Nat.sub_zero, vE, cE_take, List.length_take, Nat.min_eq_left hm]
theorem right_of {n : Int} {es : List Ed} (h0 : 0 ≤ n) (h1 : n ≤ 1000) (hl : es.length ≤ 4000) (hs : es.Pairwise ltE) (he : ∀ x ∈ es, 0 ≤ x.1 ∧ x.1 < x.2 ∧ x.2 < n) : rightE n es = true := by
  unfold rightE
  rw [Bool.and_eq_true, decide_eq_true_eq, List.all_eq_true]
  refine ⟨⟨h0, h1, hl⟩, fun i hi => ?_⟩
  have hi := List.mem_range.1 hi
  obtain ⟨e1, e2, e3⟩ := he _ (List.getElem_mem hi)
  simp only [stepE, List.getD_eq_getElem?_getD, List.getElem?_eq_getElem hi, Option.getD_some, Bool.and_eq_true, decide_eq_true_eq, Bool.or_eq_true, beq_iff_eq]
  refine ⟨⟨⟨e1, e2⟩, e3⟩, ?_⟩
  by_cases e : i = 0
  · exact .inl e
  · right
    have hi1 : i - 1 < es.length := by omega
    rw [List.getElem?_eq_getElem hi1, Option.getD_some]
    exact (cmpE_neg _ _).2 (List.pairwise_iff_getElem.1 hs (i - 1) i hi1 hi (by omega))
theorem setE_ends {n : Int} {l : List Ed} (h : l.all (okEnds n) = true) : ∀ x ∈ setE l, 0 ≤ x.1 ∧ x.1 < x.2 ∧ x.2 < n := by
  intro x hx
  rw [setE_mem, normsE_mem] at hx
  obtain ⟨y, hy, hne, rfl⟩ := hx
  have := List.all_eq_true.1 h y hy
  simp only [okEnds, Bool.and_eq_true, decide_eq_true_eq] at this
  simp only
  omega
theorem normalE_right {n : Int} {l : List Ed} (h : (normalE n l).2.2 = 0) : rightE (normalE n l).1 (normalE n l).2.1 = true := by
  have hd : normalE n l = if n < 0 then (0, [], 1) else if n > 1000 then (0, [], 5) else if l.all (okEnds n) then (if (setE l).length > 4000 then (0, [], 5) else (n, setE l, 0)) else (0, [], 4) := rfl
  rw [hd] at h ⊢
  by_cases h1 : n < 0
  · simp [h1] at h
  by_cases h2 : n > 1000
  · simp [h1, h2] at h
  by_cases h3 : l.all (okEnds n) = true
  · by_cases h4 : (setE l).length > 4000
    · simp only [h1, h2, h3, h4, if_true, if_false] at h; simp at h
    · simp only [h1, h2, h3, h4, if_true, if_false]
      exact right_of (by omega) (by omega) (by omega) (setE_strict l) (setE_ends h3)
  · simp only [h1, h2, h3, if_false] at h; simp at h
theorem normalE_len (n : Int) (l : List Ed) : (normalE n l).2.1.length ≤ 4000 := by
  unfold normalE
  split; · simp
  split; · simp
  split
  · split
    · simp
    · simp only; omega
  · simp
theorem w_GraphNormal (h : Has A (φ 5) (f5 φ)) (hS : PVal A (φ 0) [] (.bool true)) (g : GC A φ) (n : Int) (v : AV) (l : List Ed) (hv : IsE v l) :
    PVal A (φ 5) [.int .i64 n, v] (.bool true) := by
  have hsh := hS.eq
  have hlen := hv.len
  obtain ⟨v', s1, s2⟩ := isE_slc hv (min l.length 300) (by omega)
  have hmin := minV_i (l.length : Int) 300
  have hmm : min (l.length : Int) 300 = ((min l.length 300 : Nat) : Int) := by omega
  rw [hmm] at hmin
  have hl' : (l.take (min l.length 300)).length < 1000000000 := by simp; omega
  have hN := (g.normal n v' _ s2 hl').eq
  have hRN := (g.rnormal n v' _ s2 hl').eq
  have hlx := normalE_len n (l.take (min l.length 300))
  have hrx := @normalE_right n (l.take (min l.length 300))
  simp only [nR] at hN hRN
  generalize normalE n (l.take (min l.length 300)) = x at *
  have hE := isE_r x.2.1
  have hSG := (g.sameG x.1 x.1 _ _ x.2.1 x.2.1 hE hE (by omega)).eq
  have hRt := (g.right x.1 _ x.2.1 hE).eq
  have hone := hE.one
  have hcl := hE.closed
  have hcell := hE.cells
  refine pval_has h rfl ?_
  simp only [b5, f5]
  by_cases h0 : x.2.2 = 0
  · have hr := hrx h0
    simp [↓getD_z, ↓getD_s, -List.getD_eq_getElem?_getD, -Int.ofNat_toNat, -getElem?_pos, gz, ↓hid_k, ↓hid_o, ↓hid_q, ↓hid_v, ↓PO_nil, ↓PO_none, ↓PO_grd, ↓PD_nil, ↓PD_none, ↓PD_grd, ↓PDO_N, ↓PDO_X, ↓PDO_call, ↓PDO_calli, ↓PDO_callv, PDX_free, PDX_eq, ↓PStep_N, ↓PStep_X, ↓PStep_call, ↓PStep_calli, PStep_callv, ↓PC_skip, ↓PC_lab, ↓PC_ret, ↓PC_exit, ↓PC_reg, ↓PC_draw, ↓PC_seq, ↓PC_block, ↓PC_loop, ↓PC_scope, ↓PC_cond, ↓thenC_norm, ↓thenC_ret, ↓thenC_exit, ↓blockC_norm, ↓blockC_ret, ↓blockC_exit, ↓loopC_norm, ↓loopC_ret, ↓loopC_exit, ↓endR_ret, ↓endR_norm, resK_none, resK_t, resK_tt, KNO_val, KNO_new, KNO_ite, KNO_map, KXO_some, KXO_ite, KVA_t, KVA_f, KG_skip, KG_tt, KG_ff, KG_tf, KG_ft, KB_true, KB_false, KNOD_val, KNOD_new, KNOD_ite, n_mv, n_pick, n_bin, n_eqB, n_eqN, n_eqS, n_un, n_conv, n_fadd, n_faddV, n_fld1, n_fldN, n_idx, n_idxA, n_idxV, n_idxAV, n_ext, n_lenS, n_lenS0, n_lenV, n_lenT, n_lenA, n_min, n_max, n_build, n_mkfn, n_slc, n_slc0, n_slcV, n_slcA, n_load1, n_loadN, n_load1V, n_loadNV, n_alloc, n_box, n_bsl, n_mksl, n_nilcP, n_nilcV, n_nilcI, n_nilcF, x_store, x_clear0, x_clear, b_add, b_sub, b_mul, b_eql, b_neq, b_lss, b_leq, b_gtr, b_geq, b_and16, unV, ntouch, gather, hide, unhide, evalOpd, applyOuts, int_bne, int_beq, ite_bool, ite_int, one_bool, cells_bool, one_int, cells_int, one_str, cells_str, one_nilp, cells_nilp, one_ptr, cells_ptr, one_nils, cells_nils, one_sl, cells_sl, one_nilf, cells_nilf, one_fn, cells_fn, one_nili, cells_nili, one_mp, cells_mp, one_nilm, cells_nilm, one_iface, cells_iface, one_vs, cells_vs, one_vp, cells_vp, cells_agg, Nat.testBit, setAt_1, setAt_2, closeds_nil, closeds_cons, closed_bool, closed_int, closed_str, closed_nilp, closed_nils, closed_nilm, closed_nilf, closed_nili, closed_agg, closed_tup, closed_vs, closed_vp, closed_iface, closed_fn, closeds_cI, closeds_cE, viewA_closed, viewR_closed, AV.scal, AV.scal0, fillA, repA, part_bool, part_int, part_str, part_nilp, part_ptr, part_nils, part_sl, part_nilm, part_mp, part_nilf, part_fn, part_nili, part_iface, part_agg, part_vs, part_vp, viewA_sl1, vaSl_cells, wrap_0, wrap_1, wrap_2, wrap_m1, set_last, get_last, er5_0, er5_1, er5_2, er5_3, er5_4, er5_5, hsh, hlen, foldV, hmin, s1, nR, hN, hRN, hSG, hRt, hone, hcl, hcell, h0, hr, s2.closed, s2.one, resK, resVs, resV, pack]
  · simp [↓getD_z, ↓getD_s, -List.getD_eq_getElem?_getD, -Int.ofNat_toNat, -getElem?_pos, gz, ↓hid_k, ↓hid_o, ↓hid_q, ↓hid_v, ↓PO_nil, ↓PO_none, ↓PO_grd, ↓PD_nil, ↓PD_none, ↓PD_grd, ↓PDO_N, ↓PDO_X, ↓PDO_call, ↓PDO_calli, ↓PDO_callv, PDX_free, PDX_eq, ↓PStep_N, ↓PStep_X, ↓PStep_call, ↓PStep_calli, PStep_callv, ↓PC_skip, ↓PC_lab, ↓PC_ret, ↓PC_exit, ↓PC_reg, ↓PC_draw, ↓PC_seq, ↓PC_block, ↓PC_loop, ↓PC_scope, ↓PC_cond, ↓thenC_norm, ↓thenC_ret, ↓thenC_exit, ↓blockC_norm, ↓blockC_ret, ↓blockC_exit, ↓loopC_norm, ↓loopC_ret, ↓loopC_exit, ↓endR_ret, ↓endR_norm, resK_none, resK_t, resK_tt, KNO_val, KNO_new, KNO_ite, KNO_map, KXO_some, KXO_ite, KVA_t, KVA_f, KG_skip, KG_tt, KG_ff, KG_tf, KG_ft, KB_true, KB_false, KNOD_val, KNOD_new, KNOD_ite, n_mv, n_pick, n_bin, n_eqB, n_eqN, n_eqS, n_un, n_conv, n_fadd, n_faddV, n_fld1, n_fldN, n_idx, n_idxA, n_idxV, n_idxAV, n_ext, n_lenS, n_lenS0, n_lenV, n_lenT, n_lenA, n_min, n_max, n_build, n_mkfn, n_slc, n_slc0, n_slcV, n_slcA, n_load1, n_loadN, n_load1V, n_loadNV, n_alloc, n_box, n_bsl, n_mksl, n_nilcP, n_nilcV, n_nilcI, n_nilcF, x_store, x_clear0, x_clear, b_add, b_sub, b_mul, b_eql, b_neq, b_lss, b_leq, b_gtr, b_geq, b_and16, unV, ntouch, gather, hide, unhide, evalOpd, applyOuts, int_bne, int_beq, ite_bool, ite_int, one_bool, cells_bool, one_int, cells_int, one_str, cells_str, one_nilp, cells_nilp, one_ptr, cells_ptr, one_nils, cells_nils, one_sl, cells_sl, one_nilf, cells_nilf, one_fn, cells_fn, one_nili, cells_nili, one_mp, cells_mp, one_nilm, cells_nilm, one_iface, cells_iface, one_vs, cells_vs, one_vp, cells_vp, cells_agg, Nat.testBit, setAt_1, setAt_2, closeds_nil, closeds_cons, closed_bool, closed_int, closed_str, closed_nilp, closed_nils, closed_nilm, closed_nilf, closed_nili, closed_agg, closed_tup, closed_vs, closed_vp, closed_iface, closed_fn, closeds_cI, closeds_cE, viewA_closed, viewR_closed, AV.scal, AV.scal0, fillA, repA, part_bool, part_int, part_str, part_nilp, part_ptr, part_nils, part_sl, part_nilm, part_mp, part_nilf, part_fn, part_nili, part_iface, part_agg, part_vs, part_vp, viewA_sl1, vaSl_cells, wrap_0, wrap_1, wrap_2, wrap_m1, set_last, get_last, er5_0, er5_1, er5_2, er5_3, er5_4, er5_5, hsh, hlen, foldV, hmin, s1, nR, hN, hRN, hSG, hRt, hone, hcl, hcell, h0, s2.closed, s2.one, resK, resVs, resV, pack]
end Go.Ai.G
