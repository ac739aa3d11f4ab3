/- A part of what the law leans on: the abstract machine, the contracts, the rows. -/
import Derived.Test.YtdjanabcicdmlaaK11
import Derived.Test.YtdjanabcicdmlaaK14
import Derived.Test.YtdjanabcicdmlaaK7
/- What graph.Has and graph.Near tell, against the reference; all contracts together. -/
namespace Go.Ai.G
open Go.Ai
set_option linter.unusedVariables false
set_option linter.unusedSimpArgs false
variable {A : AProg} {φ : Nat → Nat}
def nbo (v : Int) (x : Ed) : List Int := (if x.2 = v then [x.1] else []) ++ (if x.1 = v then [x.2] else [])
theorem nbs_all (v : Int) : ∀ (es : List Ed), es.Pairwise ltE → (∀ x ∈ es, x.1 < x.2) → nbs v es = es.flatMap (nbo v)
  | [], _, _ => rfl
  | x :: l, hp, hx => by
    rw [List.pairwise_cons] at hp
    simp only [nbs]
    split
    · rename_i h
      symm
      rw [List.flatMap_eq_nil_iff]
      intro y hy
      have hxy : x.1 ≤ y.1 := by
        rcases List.mem_cons.1 hy with rfl | hy
        · exact Int.le_refl _
        · have := hp.1 y hy; unfold ltE at this; omega
      have := hx y hy
      simp only [nbo]
      rw [if_neg (by omega), if_neg (by omega)]; rfl
    · rw [List.flatMap_cons, nbs_all v l hp.2 (fun y hy => hx y (List.mem_cons_of_mem _ hy)), nbo]
theorem nbo_sorted (v : Int) (es : List Ed) (hp : es.Pairwise ltE) (hx : ∀ x ∈ es, x.1 < x.2) : (es.flatMap (nbo v)).Pairwise (· ≤ ·) := by
  rw [List.pairwise_flatMap]
  constructor
  · intro x hm
    have := hx x hm
    unfold nbo
    by_cases h1 : x.2 = v
    · rw [if_pos h1, if_neg (by omega)]; simp
    · rw [if_neg h1]; split <;> simp
  · refine List.Pairwise.imp_of_mem ?_ hp
    intro x y hmx hmy hl p hp q hq
    have h1 := hx x hmx
    have h2 := hx y hmy
    unfold ltE at hl
    simp only [nbo, List.mem_append] at hp hq
    by_cases a1 : x.2 = v <;> by_cases a2 : x.1 = v <;> by_cases a3 : y.2 = v <;> by_cases a4 : y.1 = v <;> simp [a1, a2, a3, a4] at hp hq <;> omega
theorem nbo_perm (v : Int) : ∀ (es : List Ed), (es.flatMap (nbo v)).Perm (nbR v es)
  | [] => List.Perm.refl _
  | x :: l => by
    simp only [nbR, List.flatMap_cons]
    refine List.Perm.append ?_ (nbo_perm v l)
    unfold nbo nbr
    by_cases h1 : x.1 = v <;> by_cases h2 : x.2 = v <;> simp [h1, h2] <;> first | exact List.Perm.swap _ _ _ | exact List.Perm.refl _ | skip
theorem right_lt {n : Int} {es : List Ed} (h : rightE n es = true) : ∀ x ∈ es, x.1 < x.2 := by
  intro x hx
  obtain ⟨i, hi, rfl⟩ := List.getElem_of_mem hx
  exact (right_step h hi).2.1
theorem near_sort {n : Int} {es : List Ed} (a : Int) (h : rightE n es = true) : nbs a es = sortI (nbR a es) := by
  rw [nbs_all a es (right_strict h) (right_lt h)]
  exact (sortI_of (nbo_sorted a es (right_strict h) (right_lt h)) (nbo_perm a es)).symm
theorem nearI_eq (n : Int) (es : List Ed) (a : Int) : nearI n es a = if rightE n es then sortI (nbR a es) else [] := by
  unfold nearI
  split
  · rename_i h; exact near_sort a h
  · rfl
theorem has_eq (n : Int) (es : List Ed) (a b : Int) : (nearI n es a).contains b = hasE n es a b := by
  unfold nearI hasE
  cases h : rightE n es with
  | false => simp
  | true =>
    rw [if_pos rfl, nbs_all a es (right_strict h) (right_lt h), Bool.true_and, Bool.eq_iff_iff]
    simp only [List.contains_iff_mem, List.mem_flatMap, nbo, List.mem_append, Bool.or_eq_true, decide_eq_true_eq]
    constructor
    · rintro ⟨⟨x, y⟩, hm, h | h⟩
      · simp only at h; split at h
        · rename_i e; simp at h; subst h; subst e; exact .inr hm
        · simp at h
      · simp only at h; split at h
        · rename_i e; simp at h; subst h; subst e; exact .inl hm
        · simp at h
    · rintro (h | h)
      · exact ⟨_, h, .inr (by simp)⟩
      · exact ⟨_, h, .inl (by simp)⟩
/-- All that the laws ask of the graph's functions and of the reference's. -/
structure GC (A : AProg) (φ : Nat → Nat) : Prop where
  normal : NormalC A (φ 1)
  rnormal : NormalC A (φ 2)
  right : RightC A (φ 4)
  rright : RightC A (φ 6)
  has : ∀ n a b v es, IsE v es → PVal A (φ 7) [gV n v, .int .i64 a, .int .i64 b] (.bool (hasE n es a b))
  rhas : ∀ n a b v es, IsE v es → PVal A (φ 8) [gV n v, .int .i64 a, .int .i64 b] (.bool (hasE n es a b))
  near : ∀ n a v es, IsE v es → PVal A (φ 9) [gV n v, .int .i64 a] (rI (if rightE n es then sortI (nbR a es) else []))
  rnear : ∀ n a v es, IsE v es → PVal A (φ 10) [gV n v, .int .i64 a] (vI (if rightE n es then sortI (nbR a es) else []))
  degrees : ∀ n v es, IsE v es → PVal A (φ 12) [gV n v] (if rightE n es then vI (degs n es) else .nils)
  rdegrees : ∀ n v es, IsE v es → PVal A (φ 13) [gV n v] (vI (if rightE n es then degs n es else []))
  add : ∀ n a b v es, IsE v es → PVal A (φ 15) [gV n v, .int .i64 a, .int .i64 b] (gR (addE n es a b))
  radd : ∀ n a b v es, IsE v es → PVal A (φ 16) [gV n v, .int .i64 a, .int .i64 b] (gR (addE n es a b))
  without : ∀ n a b v es, IsE v es → PVal A (φ 17) [gV n v, .int .i64 a, .int .i64 b] (gW (withoutE n es a b))
  rwithout : ∀ n a b v es, IsE v es → PVal A (φ 18) [gV n v, .int .i64 a, .int .i64 b] (gR (withoutE n es a b))
  same : ∀ v u xs ys, IsI v xs → IsI u ys → xs.length < 1000000000000 → PVal A (φ 11) [v, u] (.bool (decide (xs = ys)))
  sameE : ∀ v u xs ys, IsE v xs → IsE u ys → xs.length < 1000000000000 → PVal A (φ 23) [v, u] (.bool (decide (xs = ys)))
  sameG : ∀ n m v u xs ys, IsE v xs → IsE u ys → xs.length < 1000000000000 → PVal A (φ 3) [gV n v, gV m u] (.bool (decide (n = m ∧ xs = ys)))
  rin : ∀ v xs x, IsI v xs → xs.length < 1000000000000 → PVal A (φ 25) [v, .int .i64 x] (.bool (decide (x ∈ xs)))
  any : ∀ n most v l, IsE v l → 0 ≤ most → most ≤ 1000 → PVal A (φ 22) [.int .i64 n, v, .int .i64 most] (gV (anyN n most) (rE (anyE n most l)))
/-- The functions, as this program bears them. -/
structure GH (A : AProg) (φ : Nat → Nat) : Prop where
  normal : Has A (φ 1) (f1 φ)
  rnormal : Has A (φ 2) (f2 φ)
  right : Has A (φ 4) (f4 φ)
  rright : Has A (φ 6) (f6 φ)
  rhas : Has A (φ 8) (f8 φ)
  rnear : Has A (φ 10) (f10 φ)
  degrees : Has A (φ 12) (f12 φ)
  rdegrees : Has A (φ 13) (f13 φ)
  add : Has A (φ 15) (f15 φ)
  radd : Has A (φ 16) (f16 φ)
  without : Has A (φ 17) (f17 φ)
  rwithout : Has A (φ 18) (f18 φ)
  same : Has A (φ 11) (f11 φ)
  sameE : Has A (φ 23) (f23 φ)
  sameG : Has A (φ 3) (f3 φ)
  rin : Has A (φ 25) (f25 φ)
  any : Has A (φ 22) (f22 φ)
  sorted : Has A (φ 30) (f30 φ)
  compare : Has A (φ 31) (f31 φ)
  cmp : Has A (φ 35) (f35 φ)
  nan : Has A (φ 37) (f37 φ)
  or : Has A (φ 36) (f36 φ)
  compact : Has A (φ 28) (f28 φ)
  clone : Has A (φ 32) (f32 φ)
  index : Has A (φ 33) (f33 φ)
  delete : Has A (φ 34) (f34 φ)
  sort : A.ext (φ 27) = some (sortExt (φ 29))
  hasx : A.ext (φ 7) = some hasExt
  nearx : A.ext (φ 9) = some nearExt
theorem GH.gc (h : GH A φ) : GC A φ := by
  have hcmp := w_compare h.compare h.cmp h.nan h.or
  have hR : RightC A (φ 4) := fun n v es hv => w_Right h.right hcmp n v es hv
  have hRR : RightC A (φ 6) := fun n v es hv => w_RRight h.rright n v es hv
  have hN : NormalC A (φ 1) := fun n v l hv hn => w_Normal h.normal h.sort h.compact n v l hv hn
  have hRN : NormalC A (φ 2) := fun n v l hv hn => w_RNormal h.rnormal h.rin h.sorted n v l hv hn
  have hRH := fun n a b v es (hv : IsE v es) => w_RHas h.rhas h.rright n a b v es hv
  exact {
    normal := hN, rnormal := hRN, right := hR, rright := hRR
    has := fun n a b v es hv => by rw [← has_eq]; exact pval_hasx h.hasx n a b v es hv
    rhas := hRH
    near := fun n a v es hv => by rw [← nearI_eq]; exact pval_near h.nearx n a v es hv
    rnear := fun n a v es hv => w_RNear h.rnear h.rright h.sorted n a v es hv
    degrees := fun n v es hv => w_Degrees h.degrees hR n v es hv
    rdegrees := fun n v es hv => w_RDegrees h.rdegrees h.rnear h.rright h.sorted n v es hv
    add := fun n a b v es hv => w_Add h.add hR hN h.clone n a b v es hv
    radd := fun n a b v es hv => w_RAdd h.radd hRR hRN n a b v es hv
    without := fun n a b v es hv => w_Without h.without hR h.index h.clone h.delete n a b v es hv
    rwithout := fun n a b v es hv => w_RWithout h.rwithout hRR hRH n a b v es hv
    same := fun v u xs ys hv hu hn => w_Same h.same v u xs ys hv hu hn
    sameE := fun v u xs ys hv hu hn => w_SameEdges h.sameE v u xs ys hv hu hn
    sameG := fun n m v u xs ys hv hu hn => w_SameGraph h.sameG h.sameE n m v u xs ys hv hu hn
    rin := fun v xs x hv hn => w_In h.rin v xs x hv hn
    any := fun n most v l hv h0 h1 => w_Any h.any hRN n most v l hv h0 h1 }
end Go.Ai.G
/- The laws of the chapter on graphs. -/
namespace Go.Ai.G
open Go.Ai
set_option maxRecDepth 100000
set_option linter.unusedSimpArgs false
set_option linter.unusedVariables false
variable {A : AProg} {φ : Nat → Nat}
theorem er5_0 (φ : Nat → Nat) : r5_0 φ = [
  ⟨0, .N .mv, [.c (.bool false)], none, 0⟩] := Eq.trans rfl rfl
theorem er5_1 (φ : Nat → Nat) : r5_1 φ = [
  ⟨0, .calli true (φ 0), [], none, 0⟩,
  ⟨1, .N .mv, [.l 0], none, 0⟩] := Eq.trans rfl rfl
theorem er5_2 (φ : Nat → Nat) : r5_2 φ = [
  ⟨0, .N .mv, [.n 1], none, 0⟩,
  ⟨1, .N .mv, [.n 1], none, 0⟩,
  ⟨2, .N .lenS, [.l 0], none, 0⟩,
  ⟨3, .N .min, [.l 0, .c (.int .i64 300)], none, 0⟩,
  ⟨4, .N (.slc 2 false true false), [.l 3, .l 0], none, 0⟩,
  ⟨5, .N .mv, [.l 0], none, 0⟩] := Eq.trans rfl rfl
theorem er5_3 (φ : Nat → Nat) : r5_3 φ = [
  ⟨0, .N .mv, [.n 0], none, 0⟩,
  ⟨1, .N .mv, [.n 1], none, 0⟩,
  ⟨2, .calli false (φ 1), [.l 1, .l 0], none, 0⟩,
  ⟨3, .N .mv, [.l 0], none, 0⟩,
  ⟨4, .N (.ext 0), [.l 0], none, 0⟩,
  ⟨5, .N (.ext 1), [.l 1], none, 0⟩,
  ⟨6, .N (.alloc [.int .i64 0, .nils]), [], none, 0⟩,
  ⟨7, .X (.store 2), [.l 0, .l 2], none, 0⟩,
  ⟨8, .N .mv, [.l 2], none, 0⟩] := Eq.trans rfl rfl
theorem er5_4 (φ : Nat → Nat) : r5_4 φ = [
  ⟨0, .N .mv, [.n 0], none, 0⟩,
  ⟨1, .N .mv, [.n 1], none, 0⟩,
  ⟨2, .calli false (φ 2), [.l 1, .l 0], none, 0⟩,
  ⟨3, .N .mv, [.l 0], none, 0⟩,
  ⟨4, .N (.ext 0), [.l 0], none, 0⟩,
  ⟨5, .N (.ext 1), [.l 1], none, 0⟩,
  ⟨6, .N (.alloc [.int .i64 0, .nils]), [], none, 0⟩,
  ⟨7, .X (.store 2), [.l 0, .l 2], none, 0⟩,
  ⟨8, .N .mv, [.l 2], none, 0⟩] := Eq.trans rfl rfl
theorem er5_5 (φ : Nat → Nat) : r5_5 φ = [
  ⟨0, .N .mv, [.n 3], none, 0⟩,
  ⟨1, .N .mv, [.l 0], none, 0⟩,
  ⟨2, .N .mv, [.n 5], some (.l 0, true), 0⟩,
  ⟨3, .N .mv, [.n 7], some (.l 1, true), 0⟩,
  ⟨4, .N (.bin .eql), [.l 1, .l 0], some (.l 2, true), 0⟩,
  ⟨5, .N .pick, [.l 3, .l 0, .c (.bool false)], none, 0⟩,
  ⟨6, .N .mv, [.l 0], none, 0⟩,
  ⟨7, .N (.loadN 2), [.n 4], some (.l 0, true), 0⟩,
  ⟨8, .N (.loadN 2), [.n 6], some (.l 1, true), 0⟩,
  ⟨9, .calli true (φ 3), [.l 1, .l 0], some (.l 2, true), 0⟩,
  ⟨10, .N .pick, [.l 3, .l 0, .c (.bool false)], none, 0⟩,
  ⟨11, .N .mv, [.l 0], none, 0⟩,
  ⟨12, .N .mv, [.n 5], some (.l 0, true), 0⟩,
  ⟨13, .N (.bin .neq), [.l 0, .c (.int .i64 0)], some (.l 1, true), 0⟩,
  ⟨14, .N .mv, [.l 0], some (.l 2, true), 0⟩,
  ⟨15, .N (.loadN 2), [.n 4], some (.l 0, false), 0⟩,
  ⟨16, .calli true (φ 4), [.l 0], some (.l 1, false), 0⟩,
  ⟨17, .N .pick, [.l 2, .c (.bool true), .l 0], some (.l 5, true), 0⟩,
  ⟨18, .N .pick, [.l 6, .l 0, .c (.bool false)], none, 0⟩,
  ⟨19, .N .mv, [.l 0], none, 0⟩] := Eq.trans rfl rfl
theorem isE_slc {v : AV} {l : List Ed} (h : IsE v l) (m : Nat) (hm : m ≤ l.length) : ∃ v', (∀ (k : IntKind) rd, nstep (.slc 2 false true false) [v, .int k (m : Int)] rd = some (.val v')) ∧ IsE v' (l.take m) := by
  obtain ⟨h1, h2, ⟨rfl, h3⟩ | rfl⟩ := h
  · have : l = [] := List.length_eq_zero_iff.1 h3
    subst this
    have : m = 0 := by simpa using hm
    subst this
    exact ⟨.nils, fun k rd => by rfl, isE_nil⟩
  · refine ⟨vE (l.take m), fun k rd => ?_, isE_v _⟩
    have hb : bounds3 l.length l.length false true false [.int k (m : Int)] = some (0, m, l.length) := by
      simp [bounds3, intArg, hm]
    rw [n_slcV, hb]
    simp only [Option.map_some, Bool.false_eq_true, false_and, if_false, Nat.zero_mul, List.drop_zero, Nat.sub_zero, vE, cE_take, List.length_take, Nat.min_eq_left hm]
theorem right_of {n : Int} {es : List Ed} (h0 : 0 ≤ n) (h1 : n ≤ 1000) (hl : es.length ≤ 4000) (hs : es.Pairwise ltE) (he : ∀ x ∈ es, 0 ≤ x.1 ∧ x.1 < x.2 ∧ x.2 < n) : rightE n es = true := by
  unfold rightE
  rw [Bool.and_eq_true, decide_eq_true_eq, List.all_eq_true]
  refine ⟨⟨h0, h1, hl⟩, fun i hi => ?_⟩
  have hi := List.mem_range.1 hi
  obtain ⟨e1, e2, e3⟩ := he _ (List.getElem_mem hi)
  simp only [stepE, List.getD_eq_getElem?_getD, List.getElem?_eq_getElem hi, Option.getD_some, Bool.and_eq_true, decide_eq_true_eq, Bool.or_eq_true, beq_iff_eq]
  refine ⟨⟨⟨e1, e2⟩, e3⟩, ?_⟩
  by_cases e : i = 0
  · exact .inl e
  · right
    have hi1 : i - 1 < es.length := by omega
    rw [List.getElem?_eq_getElem hi1, Option.getD_some]
    exact (cmpE_neg _ _).2 (List.pairwise_iff_getElem.1 hs (i - 1) i hi1 hi (by omega))
theorem setE_ends {n : Int} {l : List Ed} (h : l.all (okEnds n) = true) : ∀ x ∈ setE l, 0 ≤ x.1 ∧ x.1 < x.2 ∧ x.2 < n := by
  intro x hx
  rw [setE_mem, normsE_mem] at hx
  obtain ⟨y, hy, hne, rfl⟩ := hx
  have := List.all_eq_true.1 h y hy
  simp only [okEnds, Bool.and_eq_true, decide_eq_true_eq] at this
  simp only
  omega
theorem normalE_right {n : Int} {l : List Ed} (h : (normalE n l).2.2 = 0) : rightE (normalE n l).1 (normalE n l).2.1 = true := by
  have hd : normalE n l = if n < 0 then (0, [], 1) else if n > 1000 then (0, [], 5) else if l.all (okEnds n) then (if (setE l).length > 4000 then (0, [], 5) else (n, setE l, 0)) else (0, [], 4) := rfl
  rw [hd] at h ⊢
  by_cases h1 : n < 0
  · simp [h1] at h
  by_cases h2 : n > 1000
  · simp [h1, h2] at h
  by_cases h3 : l.all (okEnds n) = true
  · by_cases h4 : (setE l).length > 4000
    · simp only [h1, h2, h3, h4, if_true, if_false] at h; simp at h
    · simp only [h1, h2, h3, h4, if_true, if_false]
      exact right_of (by omega) (by omega) (by omega) (setE_strict l) (setE_ends h3)
  · simp only [h1, h2, h3, if_false] at h; simp at h
theorem normalE_len (n : Int) (l : List Ed) : (normalE n l).2.1.length ≤ 4000 := by
  unfold normalE
  split; · simp
  split; · simp
  split
  · split
    · simp
    · simp only; omega
  · simp
theorem w_GraphNormal (h : Has A (φ 5) (f5 φ)) (hS : PVal A (φ 0) [] (.bool true)) (g : GC A φ) (n : Int) (v : AV) (l : List Ed) (hv : IsE v l) :
    PVal A (φ 5) [.int .i64 n, v] (.bool true) := by
  have hsh := hS.eq
  have hlen := hv.len
  obtain ⟨v', s1, s2⟩ := isE_slc hv (min l.length 300) (by omega)
  have hmin := minV_i (l.length : Int) 300
  have hmm : min (l.length : Int) 300 = ((min l.length 300 : Nat) : Int) := by omega
  rw [hmm] at hmin
  have hl' : (l.take (min l.length 300)).length < 1000000000 := by simp; omega
  have hN := (g.normal n v' _ s2 hl').eq
  have hRN := (g.rnormal n v' _ s2 hl').eq
  have hlx := normalE_len n (l.take (min l.length 300))
  have hrx := @normalE_right n (l.take (min l.length 300))
  simp only [nR] at hN hRN
  generalize normalE n (l.take (min l.length 300)) = x at *
  have hE := isE_r x.2.1
  have hSG := (g.sameG x.1 x.1 _ _ x.2.1 x.2.1 hE hE (by omega)).eq
  have hRt := (g.right x.1 _ x.2.1 hE).eq
  have hone := hE.one
  have hcl := hE.closed
  have hcell := hE.cells
  refine pval_has h rfl ?_
  simp only [b5, f5]
  by_cases h0 : x.2.2 = 0
  · have hr := hrx h0
    simp [↓getD_z, ↓getD_s, -List.getD_eq_getElem?_getD, -Int.ofNat_toNat, -getElem?_pos, gz, ↓hid_k, ↓hid_o, ↓hid_q, ↓hid_v, ↓PO_nil, ↓PO_none, ↓PO_grd, ↓PD_nil, ↓PD_none, ↓PD_grd, ↓PDO_N, ↓PDO_X, ↓PDO_call, ↓PDO_calli, ↓PDO_callv, PDX_free, PDX_eq, ↓PStep_N, ↓PStep_X, ↓PStep_call, ↓PStep_calli, PStep_callv, ↓PC_skip, ↓PC_lab, ↓PC_ret, ↓PC_exit, ↓PC_reg, ↓PC_draw, ↓PC_seq, ↓PC_block, ↓PC_loop, ↓PC_scope, ↓PC_cond, ↓thenC_norm, ↓thenC_ret, ↓thenC_exit, ↓blockC_norm, ↓blockC_ret, ↓blockC_exit, ↓loopC_norm, ↓loopC_ret, ↓loopC_exit, ↓endR_ret, ↓endR_norm, resK_none, resK_t, resK_tt, KNO_val, KNO_new, KNO_ite, KNO_map, KXO_some, KXO_ite, KVA_t, KVA_f, KG_skip, KG_tt, KG_ff, KG_tf, KG_ft, KB_true, KB_false, KNOD_val, KNOD_new, KNOD_ite, n_mv, n_pick, n_bin, n_eqB, n_eqN, n_eqS, n_un, n_conv, n_fadd, n_faddV, n_fld1, n_fldN, n_idx, n_idxA, n_idxV, n_idxAV, n_ext, n_lenS, n_lenS0, n_lenV, n_lenT, n_lenA, n_min, n_max, n_build, n_mkfn, n_slc, n_slc0, n_slcV, n_slcA, n_load1, n_loadN, n_load1V, n_loadNV, n_alloc, n_box, n_bsl, n_mksl, n_nilcP, n_nilcV, n_nilcI, n_nilcF, x_store, x_clear0, x_clear, b_add, b_sub, b_mul, b_eql, b_neq, b_lss, b_leq, b_gtr, b_geq, b_and16, unV, ntouch, gather, hide, unhide, evalOpd, applyOuts, int_bne, int_beq, ite_bool, ite_int, one_bool, cells_bool, one_int, cells_int, one_str, cells_str, one_nilp, cells_nilp, one_ptr, cells_ptr, one_nils, cells_nils, one_sl, cells_sl, one_nilf, cells_nilf, one_fn, cells_fn, one_nili, cells_nili, one_mp, cells_mp, one_nilm, cells_nilm, one_iface, cells_iface, one_vs, cells_vs, one_vp, cells_vp, cells_agg, Nat.testBit, setAt_1, setAt_2, closeds_nil, closeds_cons, closed_bool, closed_int, closed_str, closed_nilp, closed_nils, closed_nilm, closed_nilf, closed_nili, closed_agg, closed_tup, closed_vs, closed_vp, closed_iface, closed_fn, closeds_cI, closeds_cE, viewA_closed, viewR_closed, AV.scal, AV.scal0, fillA, repA, part_bool, part_int, part_str, part_nilp, part_ptr, part_nils, part_sl, part_nilm, part_mp, part_nilf, part_fn, part_nili, part_iface, part_agg, part_vs, part_vp, viewA_sl1, vaSl_cells, wrap_0, wrap_1, wrap_2, wrap_m1, set_last, get_last, er5_0, er5_1, er5_2, er5_3, er5_4, er5_5, hsh, hlen, foldV, hmin, s1, nR, hN, hRN, hSG, hRt, hone, hcl, hcell, h0, hr, s2.closed, s2.one, resK, resVs, resV, pack]
  · simp [↓getD_z, ↓getD_s, -List.getD_eq_getElem?_getD, -Int.ofNat_toNat, -getElem?_pos, gz, ↓hid_k, ↓hid_o, ↓hid_q, ↓hid_v, ↓PO_nil, ↓PO_none, ↓PO_grd, ↓PD_nil, ↓PD_none, ↓PD_grd, ↓PDO_N, ↓PDO_X, ↓PDO_call, ↓PDO_calli, ↓PDO_callv, PDX_free, PDX_eq, ↓PStep_N, ↓PStep_X, ↓PStep_call, ↓PStep_calli, PStep_callv, ↓PC_skip, ↓PC_lab, ↓PC_ret, ↓PC_exit, ↓PC_reg, ↓PC_draw, ↓PC_seq, ↓PC_block, ↓PC_loop, ↓PC_scope, ↓PC_cond, ↓thenC_norm, ↓thenC_ret, ↓thenC_exit, ↓blockC_norm, ↓blockC_ret, ↓blockC_exit, ↓loopC_norm, ↓loopC_ret, ↓loopC_exit, ↓endR_ret, ↓endR_norm, resK_none, resK_t, resK_tt, KNO_val, KNO_new, KNO_ite, KNO_map, KXO_some, KXO_ite, KVA_t, KVA_f, KG_skip, KG_tt, KG_ff, KG_tf, KG_ft, KB_true, KB_false, KNOD_val, KNOD_new, KNOD_ite, n_mv, n_pick, n_bin, n_eqB, n_eqN, n_eqS, n_un, n_conv, n_fadd, n_faddV, n_fld1, n_fldN, n_idx, n_idxA, n_idxV, n_idxAV, n_ext, n_lenS, n_lenS0, n_lenV, n_lenT, n_lenA, n_min, n_max, n_build, n_mkfn, n_slc, n_slc0, n_slcV, n_slcA, n_load1, n_loadN, n_load1V, n_loadNV, n_alloc, n_box, n_bsl, n_mksl, n_nilcP, n_nilcV, n_nilcI, n_nilcF, x_store, x_clear0, x_clear, b_add, b_sub, b_mul, b_eql, b_neq, b_lss, b_leq, b_gtr, b_geq, b_and16, unV, ntouch, gather, hide, unhide, evalOpd, applyOuts, int_bne, int_beq, ite_bool, ite_int, one_bool, cells_bool, one_int, cells_int, one_str, cells_str, one_nilp, cells_nilp, one_ptr, cells_ptr, one_nils, cells_nils, one_sl, cells_sl, one_nilf, cells_nilf, one_fn, cells_fn, one_nili, cells_nili, one_mp, cells_mp, one_nilm, cells_nilm, one_iface, cells_iface, one_vs, cells_vs, one_vp, cells_vp, cells_agg, Nat.testBit, setAt_1, setAt_2, closeds_nil, closeds_cons, closed_bool, closed_int, closed_str, closed_nilp, closed_nils, closed_nilm, closed_nilf, closed_nili, closed_agg, closed_tup, closed_vs, closed_vp, closed_iface, closed_fn, closeds_cI, closeds_cE, viewA_closed, viewR_closed, AV.scal, AV.scal0, fillA, repA, part_bool, part_int, part_str, part_nilp, part_ptr, part_nils, part_sl, part_nilm, part_mp, part_nilf, part_fn, part_nili, part_iface, part_agg, part_vs, part_vp, viewA_sl1, vaSl_cells, wrap_0, wrap_1, wrap_2, wrap_m1, set_last, get_last, er5_0, er5_1, er5_2, er5_3, er5_4, er5_5, hsh, hlen, foldV, hmin, s1, nR, hN, hRN, hSG, hRt, hone, hcl, hcell, h0, s2.closed, s2.one, resK, resVs, resV, pack]
end Go.Ai.G
/- GraphRight. -/
namespace Go.Ai.G
open Go.Ai
set_option maxRecDepth 100000
set_option linter.unusedSimpArgs false
set_option linter.unusedVariables false
variable {A : AProg} {φ : Nat → Nat}
theorem er14_0 (φ : Nat → Nat) : r14_0 φ = [
  ⟨0, .N .box, [.n 0], none, 0⟩,
  ⟨1, .N .mv, [.c (.bool false)], none, 0⟩] := Eq.trans rfl rfl
theorem er14_1 (φ : Nat → Nat) : r14_1 φ = [
  ⟨0, .calli true (φ 0), [], none, 0⟩,
  ⟨1, .N .mv, [.l 0], none, 0⟩] := Eq.trans rfl rfl
theorem er14_2 (φ : Nat → Nat) : r14_2 φ = [
  ⟨0, .N (.bsl [.int .i64 0, .int .i64 0] 0 2 []), [], none, 0⟩,
  ⟨1, .N (.fadd 1), [.n 3], none, 0⟩,
  ⟨2, .N .load1, [.l 0], none, 0⟩,
  ⟨3, .N (.fadd 1), [.n 3], none, 0⟩,
  ⟨4, .N .load1, [.l 0], none, 0⟩,
  ⟨5, .N .lenS, [.l 0], none, 0⟩,
  ⟨6, .N .min, [.l 0, .c (.int .i64 500)], none, 0⟩,
  ⟨7, .N (.slc 2 false true false), [.l 4, .l 0], none, 0⟩,
  ⟨8, .X (.app 2 16), [.l 7, .l 0], none, 0⟩,
  ⟨9, .N (.fadd 1), [.n 3], none, 0⟩,
  ⟨10, .X (.store 1), [.l 0, .l 1], none, 0⟩] := Eq.trans rfl rfl
theorem er14_3 (φ : Nat → Nat) : r14_3 φ = [
  ⟨0, .N .mv, [.n 5], none, 0⟩,
  ⟨1, .N .mv, [.l 0], none, 1⟩,
  ⟨2, .N (.loadN 2), [.n 3], some (.l 0, true), 3⟩,
  ⟨4, .N (.loadN 2), [.n 3], some (.l 1, true), 3⟩,
  ⟨3, .calli true (φ 4), [.l 1], some (.l 2, true), 7⟩,
  ⟨5, .calli true (φ 6), [.l 1], some (.l 3, true), 31⟩,
  ⟨6, .N (.eqB false), [.l 1, .l 0], some (.l 4, true), 63⟩,
  ⟨7, .N .pick, [.l 5, .l 0, .c (.bool false)], none, 127⟩,
  ⟨8, .N .mv, [.l 0], none, 255⟩,
  ⟨9, .N (.loadN 2), [.n 3], some (.l 0, true), 511⟩,
  ⟨10, .N .mv, [.n 1], some (.l 1, true), 511⟩,
  ⟨11, .N .mv, [.n 2], some (.l 2, true), 511⟩,
  ⟨13, .N (.loadN 2), [.n 3], some (.l 3, true), 511⟩,
  ⟨14, .N .mv, [.n 1], some (.l 4, true), 511⟩,
  ⟨15, .N .mv, [.n 2], some (.l 5, true), 511⟩,
  ⟨12, .calli true (φ 7), [.l 5, .l 4, .l 3], some (.l 6, true), 4095⟩,
  ⟨16, .calli true (φ 8), [.l 3, .l 2, .l 1], some (.l 7, true), 65535⟩,
  ⟨17, .N (.eqB false), [.l 1, .l 0], some (.l 8, true), 131071⟩,
  ⟨18, .N .pick, [.l 9, .l 0, .c (.bool false)], none, 262143⟩,
  ⟨19, .N .mv, [.l 0], none, 524287⟩,
  ⟨20, .N (.loadN 2), [.n 3], some (.l 0, true), 1048575⟩,
  ⟨21, .N .mv, [.n 1], some (.l 1, true), 1048575⟩,
  ⟨23, .N (.loadN 2), [.n 3], some (.l 2, true), 1048575⟩,
  ⟨24, .N .mv, [.n 1], some (.l 3, true), 1048575⟩,
  ⟨22, .calli false (φ 9), [.l 3, .l 2], some (.l 4, true), 4194303⟩,
  ⟨25, .calli false (φ 10), [.l 2, .l 1], some (.l 5, true), 33554431⟩,
  ⟨26, .calli true (φ 11), [.l 1, .l 0], some (.l 6, true), 67108863⟩,
  ⟨27, .N .pick, [.l 7, .l 0, .c (.bool false)], none, 134217727⟩,
  ⟨28, .N .mv, [.l 0], none, 268435455⟩,
  ⟨29, .N (.loadN 2), [.n 3], some (.l 0, true), 536870911⟩,
  ⟨31, .N (.loadN 2), [.n 3], some (.l 1, true), 536870911⟩,
  ⟨30, .calli false (φ 12), [.l 1], some (.l 2, true), 1073741823⟩,
  ⟨32, .calli false (φ 13), [.l 1], some (.l 3, true), 4294967295⟩,
  ⟨33, .calli true (φ 11), [.l 1, .l 0], some (.l 4, true), 8589934591⟩,
  ⟨34, .N .pick, [.l 5, .l 0, .c (.bool false)], none, 17179869183⟩,
  ⟨35, .N .mv, [.l 0], none, 34359738367⟩] := Eq.trans rfl rfl
/-- A graph's edges, at most so many, laid anew and one's own: what a law does with the graph that it is handed. -/
theorem cut_own (n : Int) (v : AV) (l : List Ed) (hv : IsE v l) (k : Nat) (hk : k ≤ 1000000) : ∃ v' o H', (∀ (i : IntKind) rd, nstep (.slc 2 false true false) [v, .int i ((min l.length k : Nat) : Int)] rd = some (.val v')) ∧
    xstep (.app 2 16) [.sl 1 0 0 0 2 0 true, v'] [.cells 0 false [.int .i64 n, v], .cells 0 false []] = some (o, H') ∧ OwnE false 1 H' o (l.take k) ∧ H'[0]? = some (.cells 0 false [.int .i64 n, v]) ∧ blkOf o ≠ some 0 := by
  obtain ⟨v', s1, s2⟩ := isE_slc hv (min l.length k) (by omega)
  have e : l.take (min l.length k) = l.take k := by
    rcases Nat.le_total l.length k with h | h
    · rw [Nat.min_eq_left h, List.take_of_length_le h, List.take_of_length_le (Nat.le_refl _)]
    · rw [Nat.min_eq_right h]
  rw [e] at s2
  have h0 : Own false 1 ([.cells 0 false [.int .i64 n, v], .cells 0 false []] : Heap) (.sl 1 0 0 0 2 0 true) 2 0 [] := .inl ⟨rfl, rfl, 1, 0, 0, rfl⟩
  obtain ⟨o, H', x1, x2, x3, x4, x5⟩ := Own.app (bytes := 16) h0 (s2.src _) (cellsE_length _) (ones_cE _) (by simp) (by simp; omega)
  refine ⟨v', o, H', s1, x1, by simpa [OwnE, List.length_take, Nat.min_comm] using x2, ?_, fun h => ?_⟩
  · rw [x3 0 (by simp) (by simp [blkOf])]; rfl
  · rcases x5 0 h with h1 | h1
    · simp [blkOf] at h1
    · simp at h1
theorem frz_keep {H : Heap} {o : AV} {b : Nat} {x : Option Ob} (hb : blkOf o ≠ some b) (h : H[b]? = x) : (frzOf H o)[b]? = x := (frzOf_get H o hb).trans h
theorem w_GraphRight (h : Has A (φ 14) (f14 φ)) (hS : PVal A (φ 0) [] (.bool true)) (g : GC A φ) (n : Int) (v : AV) (l : List Ed) (hv : IsE v l) (a b : Int) :
    PVal A (φ 14) [gV n v, .int .i64 a, .int .i64 b] (.bool true) := by
  have hsh := hS.eq
  have hlen := hv.len
  have hone := hv.one
  have hcl := hv.closed
  obtain ⟨v', o, H', s1, x1, x2, e0, ho⟩ := cut_own n v l hv 500 (by omega)
  have hmin := minV_i (l.length : Int) 500
  have hmm : min (l.length : Int) 500 = ((min l.length 500 : Nat) : Int) := by omega
  rw [hmm] at hmin
  have hL : (l.take 500).length ≤ 500 := by simp; omega
  generalize l.take 500 = es at *
  have hset : (H'.set 0 (.cells 0 false [.int .i64 n, o]))[0]? = some (.cells 0 false [.int .i64 n, o]) := List.getElem?_set_self (lt_of_get e0)
  have hw : Vw false (H'.set 0 (.cells 0 false [.int .i64 n, o])) o 2 es.length (cellsE es) := Own.vw (Own.keep x2 fun b hb hbe => List.getElem?_set_ne (by have := (Own.blk x2 hbe).1; omega))
  have hset0 : setAt [.int .i64 n, v] 1 [o] = [.int .i64 n, o] := rfl
  have hoc := hw.cells
  have hoo := hw.one
  have hc := closeds_cE es
  have hIs : IsE (rv false es.length 2 (cellsE es)) es := is_rv (cellsE_length es) hc
  have hF0 := frz_keep ho hset
  have va1 := hw.g1 hc n
  have va2 := hw.g2 hc n
  have va3 := hw.g3 hc n
  obtain ⟨f1, f2, _⟩ := hw.frz
  have vb1 := f1.g1 hc n
  have vb2 := f1.g2 hc n
  have vb3 := f1.g3 hc n
  rw [f2] at vb1 vb2 vb3
  generalize hH2 : H'.set 0 (.cells 0 false [.int .i64 n, o]) = H2 at *
  generalize frzOf H2 o = F at *
  have c1 := (g.right n _ es hIs).eq
  have c2 := (g.rright n _ es hIs).eq
  have c3 := (g.has n a b _ es hIs).eq
  have c4 := (g.rhas n a b _ es hIs).eq
  have c5 := (g.near n a _ es hIs).eq
  have c6 := (g.rnear n a _ es hIs).eq
  have c7 := (g.degrees n _ es hIs).eq
  have c8 := (g.rdegrees n _ es hIs).eq
  have hnl : (if rightE n es = true then sortI (nbR a es) else []).length < 1000000000000 := by
    split
    · rw [sortI_len]; have := nbR_len a es; omega
    · simp
  have c9 := (g.same _ _ _ _ (isI_r (if rightE n es = true then sortI (nbR a es) else [])) (isI_v (if rightE n es = true then sortI (nbR a es) else [])) hnl).eq
  generalize (if rightE n es = true then sortI (nbR a es) else []) = nb at *
  have n1 := (isI_r nb).closed
  have n2 := (isI_v nb).closed
  have n3 := (isI_r nb).one
  refine pval_has h rfl ?_
  simp only [b14, f14]
  by_cases hR : rightE n es = true
  · have hn := right_len hR
    have hdl : (degs n es).length < 1000000000000 := by simp [degs]; omega
    have c10 := (g.same _ _ _ _ (isI_v (degs n es)) (isI_v (degs n es)) hdl).eq
    have d1 := (isI_v (degs n es)).closed
    simp [hR] at c1 c2 c7 c8
    simp [↓getD_z, ↓getD_s, -List.getD_eq_getElem?_getD, -Int.ofNat_toNat, -getElem?_pos, gz, ↓hid_k, ↓hid_o, ↓hid_q, ↓hid_v, ↓PO_nil, ↓PO_none, ↓PO_grd, ↓PD_nil, ↓PD_none, ↓PD_grd, ↓PDO_N, ↓PDO_X, ↓PDO_call, ↓PDO_calli, ↓PDO_callv, PDX_free, PDX_eq, ↓PStep_N, ↓PStep_X, ↓PStep_call, ↓PStep_calli, PStep_callv, ↓PC_skip, ↓PC_lab, ↓PC_ret, ↓PC_exit, ↓PC_reg, ↓PC_draw, ↓PC_seq, ↓PC_block, ↓PC_loop, ↓PC_scope, ↓PC_cond, ↓thenC_norm, ↓thenC_ret, ↓thenC_exit, ↓blockC_norm, ↓blockC_ret, ↓blockC_exit, ↓loopC_norm, ↓loopC_ret, ↓loopC_exit, ↓endR_ret, ↓endR_norm, resK_none, resK_t, resK_tt, KNO_val, KNO_new, KNO_ite, KNO_map, KXO_some, KXO_ite, KVA_t, KVA_f, KG_skip, KG_tt, KG_ff, KG_tf, KG_ft, KB_true, KB_false, KNOD_val, KNOD_new, KNOD_ite, n_mv, n_pick, n_bin, n_eqB, n_eqN, n_eqS, n_un, n_conv, n_fadd, n_faddV, n_fld1, n_fldN, n_idx, n_idxA, n_idxV, n_idxAV, n_ext, n_lenS, n_lenS0, n_lenV, n_lenT, n_lenA, n_min, n_max, n_build, n_mkfn, n_slc, n_slc0, n_slcV, n_slcA, n_load1, n_loadN, n_load1V, n_loadNV, n_alloc, n_box, n_bsl, n_mksl, n_nilcP, n_nilcV, n_nilcI, n_nilcF, x_store, x_clear0, x_clear, b_add, b_sub, b_mul, b_eql, b_neq, b_lss, b_leq, b_gtr, b_geq, b_and16, unV, ntouch, gather, hide, unhide, evalOpd, applyOuts, int_bne, int_beq, ite_bool, ite_int, one_bool, cells_bool, one_int, cells_int, one_str, cells_str, one_nilp, cells_nilp, one_ptr, cells_ptr, one_nils, cells_nils, one_sl, cells_sl, one_nilf, cells_nilf, one_fn, cells_fn, one_nili, cells_nili, one_mp, cells_mp, one_nilm, cells_nilm, one_iface, cells_iface, one_vs, cells_vs, one_vp, cells_vp, cells_agg, Nat.testBit, setAt_1, setAt_2, closeds_nil, closeds_cons, closed_bool, closed_int, closed_str, closed_nilp, closed_nils, closed_nilm, closed_nilf, closed_nili, closed_agg, closed_tup, closed_vs, closed_vp, closed_iface, closed_fn, closeds_cI, closeds_cE, viewA_closed, viewR_closed, AV.scal, AV.scal0, fillA, repA, part_bool, part_int, part_str, part_nilp, part_ptr, part_nils, part_sl, part_nilm, part_mp, part_nilf, part_fn, part_nili, part_iface, part_agg, part_vs, part_vp, viewA_sl1, vaSl_cells, wrap_0, wrap_1, wrap_2, wrap_m1, set_last, get_last, er14_0, er14_1, er14_2, er14_3, hsh, hlen, hone, hcl, foldV, hmin, s1, x1, e0, hset0, hH2, hoc, hoo, hset, hF0, va1, va2, va3, vb1, vb2, vb3, c1, c2, c3, c4, c5, c6, c7, c8, c9, c10, n1, n2, n3, d1, resK, resVs, resV, pack]
  · simp only [Bool.not_eq_true] at hR
    have c10 := (g.same _ _ _ _ isI_nil (isI_v []) (by simp)).eq
    simp [hR] at c1 c2 c7 c8
    simp [↓getD_z, ↓getD_s, -List.getD_eq_getElem?_getD, -Int.ofNat_toNat, -getElem?_pos, gz, ↓hid_k, ↓hid_o, ↓hid_q, ↓hid_v, ↓PO_nil, ↓PO_none, ↓PO_grd, ↓PD_nil, ↓PD_none, ↓PD_grd, ↓PDO_N, ↓PDO_X, ↓PDO_call, ↓PDO_calli, ↓PDO_callv, PDX_free, PDX_eq, ↓PStep_N, ↓PStep_X, ↓PStep_call, ↓PStep_calli, PStep_callv, ↓PC_skip, ↓PC_lab, ↓PC_ret, ↓PC_exit, ↓PC_reg, ↓PC_draw, ↓PC_seq, ↓PC_block, ↓PC_loop, ↓PC_scope, ↓PC_cond, ↓thenC_norm, ↓thenC_ret, ↓thenC_exit, ↓blockC_norm, ↓blockC_ret, ↓blockC_exit, ↓loopC_norm, ↓loopC_ret, ↓loopC_exit, ↓endR_ret, ↓endR_norm, resK_none, resK_t, resK_tt, KNO_val, KNO_new, KNO_ite, KNO_map, KXO_some, KXO_ite, KVA_t, KVA_f, KG_skip, KG_tt, KG_ff, KG_tf, KG_ft, KB_true, KB_false, KNOD_val, KNOD_new, KNOD_ite, n_mv, n_pick, n_bin, n_eqB, n_eqN, n_eqS, n_un, n_conv, n_fadd, n_faddV, n_fld1, n_fldN, n_idx, n_idxA, n_idxV, n_idxAV, n_ext, n_lenS, n_lenS0, n_lenV, n_lenT, n_lenA, n_min, n_max, n_build, n_mkfn, n_slc, n_slc0, n_slcV, n_slcA, n_load1, n_loadN, n_load1V, n_loadNV, n_alloc, n_box, n_bsl, n_mksl, n_nilcP, n_nilcV, n_nilcI, n_nilcF, x_store, x_clear0, x_clear, b_add, b_sub, b_mul, b_eql, b_neq, b_lss, b_leq, b_gtr, b_geq, b_and16, unV, ntouch, gather, hide, unhide, evalOpd, applyOuts, int_bne, int_beq, ite_bool, ite_int, one_bool, cells_bool, one_int, cells_int, one_str, cells_str, one_nilp, cells_nilp, one_ptr, cells_ptr, one_nils, cells_nils, one_sl, cells_sl, one_nilf, cells_nilf, one_fn, cells_fn, one_nili, cells_nili, one_mp, cells_mp, one_nilm, cells_nilm, one_iface, cells_iface, one_vs, cells_vs, one_vp, cells_vp, cells_agg, Nat.testBit, setAt_1, setAt_2, closeds_nil, closeds_cons, closed_bool, closed_int, closed_str, closed_nilp, closed_nils, closed_nilm, closed_nilf, closed_nili, closed_agg, closed_tup, closed_vs, closed_vp, closed_iface, closed_fn, closeds_cI, closeds_cE, viewA_closed, viewR_closed, AV.scal, AV.scal0, fillA, repA, part_bool, part_int, part_str, part_nilp, part_ptr, part_nils, part_sl, part_nilm, part_mp, part_nilf, part_fn, part_nili, part_iface, part_agg, part_vs, part_vp, viewA_sl1, vaSl_cells, wrap_0, wrap_1, wrap_2, wrap_m1, set_last, get_last, er14_0, er14_1, er14_2, er14_3, hsh, hlen, hone, hcl, foldV, hmin, s1, x1, e0, hset0, hH2, hoc, hoo, hset, hF0, va1, va2, va3, vb1, vb2, vb3, c1, c2, c3, c4, c5, c6, c7, c8, c9, c10, n1, n2, n3, resK, resVs, resV, pack]
end Go.Ai.G
/- GraphAdds. -/
namespace Go.Ai.G
open Go.Ai
set_option maxRecDepth 100000
set_option linter.unusedSimpArgs false
set_option linter.unusedVariables false
variable {A : AProg} {φ : Nat → Nat}
theorem er19_0 (φ : Nat → Nat) : r19_0 φ = [
  ⟨0, .N .box, [.n 0], none, 0⟩,
  ⟨1, .N .mv, [.c (.bool false)], none, 0⟩] := Eq.trans rfl rfl
theorem er19_1 (φ : Nat → Nat) : r19_1 φ = [
  ⟨0, .calli true (φ 0), [], none, 0⟩,
  ⟨1, .N .mv, [.l 0], none, 0⟩] := Eq.trans rfl rfl
theorem er19_2 (φ : Nat → Nat) : r19_2 φ = [
  ⟨0, .N (.bsl [.int .i64 0, .int .i64 0] 0 2 []), [], none, 0⟩,
  ⟨1, .N (.fadd 1), [.n 3], none, 0⟩,
  ⟨2, .N .load1, [.l 0], none, 0⟩,
  ⟨3, .N (.fadd 1), [.n 3], none, 0⟩,
  ⟨4, .N .load1, [.l 0], none, 0⟩,
  ⟨5, .N .lenS, [.l 0], none, 0⟩,
  ⟨6, .N .min, [.l 0, .c (.int .i64 500)], none, 0⟩,
  ⟨7, .N (.slc 2 false true false), [.l 4, .l 0], none, 0⟩,
  ⟨8, .X (.app 2 16), [.l 7, .l 0], none, 0⟩,
  ⟨9, .N (.fadd 1), [.n 3], none, 0⟩,
  ⟨10, .X (.store 1), [.l 0, .l 1], none, 0⟩] := Eq.trans rfl rfl
theorem er19_3 (φ : Nat → Nat) : r19_3 φ = [
  ⟨0, .N (.loadN 2), [.n 3], none, 0⟩,
  ⟨1, .N .mv, [.n 1], none, 0⟩,
  ⟨2, .N .mv, [.n 2], none, 0⟩,
  ⟨3, .calli false (φ 15), [.l 2, .l 1, .l 0], none, 0⟩,
  ⟨4, .N .mv, [.l 0], none, 0⟩,
  ⟨5, .N (.ext 0), [.l 0], none, 0⟩,
  ⟨6, .N (.ext 1), [.l 1], none, 0⟩,
  ⟨7, .N (.alloc [.int .i64 0, .nils]), [], none, 0⟩,
  ⟨8, .X (.store 2), [.l 0, .l 2], none, 0⟩,
  ⟨9, .N .mv, [.l 2], none, 0⟩] := Eq.trans rfl rfl
theorem er19_4 (φ : Nat → Nat) : r19_4 φ = [
  ⟨0, .N (.loadN 2), [.n 3], none, 0⟩,
  ⟨1, .N .mv, [.n 1], none, 0⟩,
  ⟨2, .N .mv, [.n 2], none, 0⟩,
  ⟨3, .calli false (φ 16), [.l 2, .l 1, .l 0], none, 0⟩,
  ⟨4, .N .mv, [.l 0], none, 0⟩,
  ⟨5, .N (.ext 0), [.l 0], none, 0⟩,
  ⟨6, .N (.ext 1), [.l 1], none, 0⟩,
  ⟨7, .N (.alloc [.int .i64 0, .nils]), [], none, 0⟩,
  ⟨8, .X (.store 2), [.l 0, .l 2], none, 0⟩,
  ⟨9, .N .mv, [.l 2], none, 0⟩] := Eq.trans rfl rfl
theorem er19_5 (φ : Nat → Nat) : r19_5 φ = [
  ⟨0, .N (.loadN 2), [.n 3], none, 0⟩,
  ⟨1, .N .mv, [.n 1], none, 0⟩,
  ⟨2, .N .mv, [.n 2], none, 0⟩,
  ⟨3, .calli false (φ 17), [.l 2, .l 1, .l 0], none, 0⟩,
  ⟨4, .N .mv, [.l 0], none, 0⟩,
  ⟨5, .N (.ext 0), [.l 0], none, 0⟩,
  ⟨6, .N (.ext 1), [.l 1], none, 0⟩,
  ⟨7, .N (.alloc [.int .i64 0, .nils]), [], none, 0⟩,
  ⟨8, .X (.store 2), [.l 0, .l 2], none, 0⟩,
  ⟨9, .N .mv, [.l 2], none, 0⟩] := Eq.trans rfl rfl
theorem er19_6 (φ : Nat → Nat) : r19_6 φ = [
  ⟨0, .N (.loadN 2), [.n 3], none, 0⟩,
  ⟨1, .N .mv, [.n 1], none, 0⟩,
  ⟨2, .N .mv, [.n 2], none, 0⟩,
  ⟨3, .calli false (φ 18), [.l 2, .l 1, .l 0], none, 0⟩,
  ⟨4, .N .mv, [.l 0], none, 0⟩,
  ⟨5, .N (.ext 0), [.l 0], none, 0⟩,
  ⟨6, .N (.ext 1), [.l 1], none, 0⟩,
  ⟨7, .N (.alloc [.int .i64 0, .nils]), [], none, 0⟩,
  ⟨8, .X (.store 2), [.l 0, .l 2], none, 0⟩,
  ⟨9, .N .mv, [.l 2], none, 0⟩] := Eq.trans rfl rfl
theorem er19_7 (φ : Nat → Nat) : r19_7 φ = [
  ⟨0, .N .mv, [.n 5], none, 0⟩,
  ⟨1, .N .mv, [.l 0], none, 0⟩,
  ⟨2, .N .mv, [.n 7], some (.l 0, true), 0⟩,
  ⟨3, .N .mv, [.n 9], some (.l 1, true), 0⟩,
  ⟨4, .N (.bin .eql), [.l 1, .l 0], some (.l 2, true), 0⟩,
  ⟨5, .N .pick, [.l 3, .l 0, .c (.bool false)], none, 0⟩,
  ⟨6, .N .mv, [.l 0], none, 0⟩,
  ⟨7, .N .mv, [.n 11], some (.l 0, true), 0⟩,
  ⟨8, .N .mv, [.n 13], some (.l 1, true), 0⟩,
  ⟨9, .N (.bin .eql), [.l 1, .l 0], some (.l 2, true), 0⟩,
  ⟨10, .N .pick, [.l 3, .l 0, .c (.bool false)], none, 0⟩,
  ⟨11, .N .mv, [.l 0], none, 0⟩,
  ⟨12, .N (.loadN 2), [.n 6], some (.l 0, true), 0⟩,
  ⟨13, .N (.loadN 2), [.n 8], some (.l 1, true), 0⟩,
  ⟨14, .calli true (φ 3), [.l 1, .l 0], some (.l 2, true), 0⟩,
  ⟨15, .N .pick, [.l 3, .l 0, .c (.bool false)], none, 0⟩,
  ⟨16, .N .mv, [.l 0], none, 0⟩,
  ⟨17, .N (.loadN 2), [.n 10], some (.l 0, true), 0⟩,
  ⟨18, .N (.loadN 2), [.n 12], some (.l 1, true), 0⟩,
  ⟨19, .calli true (φ 3), [.l 1, .l 0], some (.l 2, true), 0⟩,
  ⟨20, .N .pick, [.l 3, .l 0, .c (.bool false)], none, 0⟩,
  ⟨21, .N .mv, [.l 0], none, 0⟩] := Eq.trans rfl rfl
theorem frz_more {F : Heap} {o : AV} (h : frzOf F o = F) (hb : ∀ b, blkOf o = some b → b < F.length) (J : Heap) : frzOf (F ++ J) o = F ++ J := by
  unfold frzOf at h ⊢
  cases hbo : blkOf o with
  | none => rfl
  | some b =>
    rw [hbo] at h
    have hlt := hb b hbo
    simp only [frzH] at h ⊢
    rw [List.getElem?_append_left hlt]
    cases hx : F[b]? with
    | none => rfl
    | some x =>
      rw [hx] at h
      cases x with
      | cells gg ro c =>
        cases ro with
        | true => rfl
        | false =>
          simp only at h
          have : F[b]? = some (.cells gg true c) := by rw [← h]; exact List.getElem?_set_self hlt
          rw [this] at hx; cases hx
      | _ => rfl
theorem get_at (F J : Heap) (k : Nat) : (F ++ J)[F.length + k]? = J[k]? := by rw [List.getElem?_append_right (by omega)]; congr 1; omega
theorem get_at0 (F J : Heap) : (F ++ J)[F.length]? = J[0]? := get_at F J 0
theorem set_at (F J : Heap) (k : Nat) (x : Ob) : (F ++ J).set (F.length + k) x = F ++ J.set k x := by rw [List.set_append_right _ _ (by omega)]; congr 2; omega
theorem set_at0 (F J : Heap) (x : Ob) : (F ++ J).set F.length x = F ++ J.set 0 x := set_at F J 0 x
theorem addE_len (n : Int) (es : List Ed) (a b : Int) : (addE n es a b).2.1.length ≤ 4000 := by
  rw [addE_def]
  split; · simp
  split; · simp
  split; · simp
  exact normalE_len _ _
theorem withoutE_len (n : Int) (es : List Ed) (a b : Int) : (withoutE n es a b).2.1.length ≤ es.length := by
  unfold withoutE
  split; · simp
  split
  · simp only [List.length_erase]; split <;> omega
  · simp
theorem w_GraphAdds (h : Has A (φ 19) (f19 φ)) (hS : PVal A (φ 0) [] (.bool true)) (g : GC A φ) (n : Int) (v : AV) (l : List Ed) (hv : IsE v l) (a b : Int) :
    PVal A (φ 19) [gV n v, .int .i64 a, .int .i64 b] (.bool true) := by
  have hsh := hS.eq
  have hlen := hv.len
  have hone := hv.one
  have hcl := hv.closed
  obtain ⟨v', o, H', s1, x1, x2, e0, ho⟩ := cut_own n v l hv 500 (by omega)
  have hmin := minV_i (l.length : Int) 500
  have hmm : min (l.length : Int) 500 = ((min l.length 500 : Nat) : Int) := by omega
  rw [hmm] at hmin
  have hL : (l.take 500).length ≤ 500 := by simp; omega
  generalize l.take 500 = es at *
  have hset : (H'.set 0 (.cells 0 false [.int .i64 n, o]))[0]? = some (.cells 0 false [.int .i64 n, o]) := List.getElem?_set_self (lt_of_get e0)
  have hown : OwnE false 1 (H'.set 0 (.cells 0 false [.int .i64 n, o])) o es := Own.keep x2 fun b hb hbe => List.getElem?_set_ne (by have := (Own.blk x2 hbe).1; omega)
  have hw : Vw false (H'.set 0 (.cells 0 false [.int .i64 n, o])) o 2 es.length (cellsE es) := Own.vw hown
  have hset0 : setAt [.int .i64 n, v] 1 [o] = [.int .i64 n, o] := rfl
  have hoc := hw.cells
  have hoo := hw.one
  have hc := closeds_cE es
  have hIs : IsE (rv false es.length 2 (cellsE es)) es := is_rv (cellsE_length es) hc
  have hF0 := frz_keep ho hset
  have va3 := hw.g3 hc n
  obtain ⟨f1, f2, _⟩ := hw.frz
  have hbl : ∀ b, blkOf o = some b → b < (frzOf (H'.set 0 (.cells 0 false [.int .i64 n, o])) o).length := fun b hb => by rw [frzOf_len]; exact (Own.blk hown hb).2
  generalize hH2 : H'.set 0 (.cells 0 false [.int .i64 n, o]) = H2 at *
  generalize frzOf H2 o = F at *
  have gA0 : ∀ J, (F ++ J)[0]? = some (.cells 0 false [.int .i64 n, o]) := fun J => get_more J hF0
  have vaJ : ∀ (J : Heap) (x y : AV), x.closed = true → y.closed = true → viewA (F ++ J) [.agg [.int .i64 n, o], x, y] = some ([.agg [.int .i64 n, rv false es.length 2 (cellsE es)], x, y], F ++ J) := by
    intro J x y hx hy
    have := (f1.keep (H' := F ++ J) fun b hb => List.getElem?_append_left (hbl b hb)).g3 hc n x y hx hy
    rwa [frz_more f2 hbl J] at this
  have c1 := (g.add n a b _ es hIs).eq
  have c2 := (g.radd n a b _ es hIs).eq
  have c3 := (g.without n a b _ es hIs).eq
  have c4 := (g.rwithout n a b _ es hIs).eq
  have hl1 := addE_len n es a b
  have hl2 := withoutE_len n es a b
  generalize addE n es a b = x at *
  generalize withoutE n es a b = y at *
  have i1 := isE_r x.2.1
  have i2 : IsE (rv (decide (y.2.2 ≠ 0)) y.2.1.length 2 (cellsE y.2.1)) y.2.1 := is_rv (cellsE_length _) (closeds_cE _)
  have i3 := isE_r y.2.1
  have c5 := (g.sameG x.1 x.1 _ _ _ _ i1 i1 (by omega)).eq
  have c6 := (g.sameG y.1 y.1 _ _ _ _ i2 i3 (by omega)).eq
  simp only [gR, gW] at c1 c2 c3 c4
  generalize rE x.2.1 = u1 at *
  generalize rv (decide (y.2.2 ≠ 0)) y.2.1.length 2 (cellsE y.2.1) = u2 at *
  generalize rE y.2.1 = u3 at *
  refine pval_has h rfl ?_
  simp only [b19, f19]
  simp [↓getD_z, ↓getD_s, -List.getD_eq_getElem?_getD, -Int.ofNat_toNat, -getElem?_pos, gz, ↓hid_k, ↓hid_o, ↓hid_q, ↓hid_v, ↓PO_nil, ↓PO_none, ↓PO_grd, ↓PD_nil, ↓PD_none, ↓PD_grd, ↓PDO_N, ↓PDO_X, ↓PDO_call, ↓PDO_calli, ↓PDO_callv, PDX_free, PDX_eq, ↓PStep_N, ↓PStep_X, ↓PStep_call, ↓PStep_calli, PStep_callv, ↓PC_skip, ↓PC_lab, ↓PC_ret, ↓PC_exit, ↓PC_reg, ↓PC_draw, ↓PC_seq, ↓PC_block, ↓PC_loop, ↓PC_scope, ↓PC_cond, ↓thenC_norm, ↓thenC_ret, ↓thenC_exit, ↓blockC_norm, ↓blockC_ret, ↓blockC_exit, ↓loopC_norm, ↓loopC_ret, ↓loopC_exit, ↓endR_ret, ↓endR_norm, resK_none, resK_t, resK_tt, KNO_val, KNO_new, KNO_ite, KNO_map, KXO_some, KXO_ite, KVA_t, KVA_f, KG_skip, KG_tt, KG_ff, KG_tf, KG_ft, KB_true, KB_false, KNOD_val, KNOD_new, KNOD_ite, n_mv, n_pick, n_bin, n_eqB, n_eqN, n_eqS, n_un, n_conv, n_fadd, n_faddV, n_fld1, n_fldN, n_idx, n_idxA, n_idxV, n_idxAV, n_ext, n_lenS, n_lenS0, n_lenV, n_lenT, n_lenA, n_min, n_max, n_build, n_mkfn, n_slc, n_slc0, n_slcV, n_slcA, n_load1, n_loadN, n_load1V, n_loadNV, n_alloc, n_box, n_bsl, n_mksl, n_nilcP, n_nilcV, n_nilcI, n_nilcF, x_store, x_clear0, x_clear, b_add, b_sub, b_mul, b_eql, b_neq, b_lss, b_leq, b_gtr, b_geq, b_and16, unV, ntouch, gather, hide, unhide, evalOpd, applyOuts, int_bne, int_beq, ite_bool, ite_int, one_bool, cells_bool, one_int, cells_int, one_str, cells_str, one_nilp, cells_nilp, one_ptr, cells_ptr, one_nils, cells_nils, one_sl, cells_sl, one_nilf, cells_nilf, one_fn, cells_fn, one_nili, cells_nili, one_mp, cells_mp, one_nilm, cells_nilm, one_iface, cells_iface, one_vs, cells_vs, one_vp, cells_vp, cells_agg, Nat.testBit, setAt_1, setAt_2, closeds_nil, closeds_cons, closed_bool, closed_int, closed_str, closed_nilp, closed_nils, closed_nilm, closed_nilf, closed_nili, closed_agg, closed_tup, closed_vs, closed_vp, closed_iface, closed_fn, closeds_cI, closeds_cE, viewA_closed, viewR_closed, AV.scal, AV.scal0, fillA, repA, part_bool, part_int, part_str, part_nilp, part_ptr, part_nils, part_sl, part_nilm, part_mp, part_nilf, part_fn, part_nili, part_iface, part_agg, part_vs, part_vp, viewA_sl1, vaSl_cells, wrap_0, wrap_1, wrap_2, wrap_m1, set_last, get_last, er19_0, er19_1, er19_2, er19_3, er19_4, er19_5, er19_6, er19_7, hsh, hlen, hone, hcl, foldV, hmin, s1, x1, e0, hset0, hH2, hoc, hoo, hset, hF0, va3, gA0, vaJ, c1, c2, c3, c4, c5, c6, i1.closed, i2.closed, i3.closed, i1.one, i2.one, i3.one, i1.cells, i2.cells, i3.cells, get_at, get_at0, set_at, set_at0, resK, resVs, resV, pack]
end Go.Ai.G
/- GraphBack. -/
namespace Go.Ai.G
open Go.Ai
set_option maxRecDepth 100000
set_option linter.unusedSimpArgs false
set_option linter.unusedVariables false
variable {A : AProg} {φ : Nat → Nat}
theorem er24_0 (φ : Nat → Nat) : r24_0 φ = [
  ⟨0, .N .box, [.n 2], none, 0⟩,
  ⟨1, .N .mv, [.c (.bool false)], none, 0⟩] := Eq.trans rfl rfl
theorem er24_1 (φ : Nat → Nat) : r24_1 φ = [
  ⟨0, .calli true (φ 0), [], none, 0⟩,
  ⟨1, .N .mv, [.l 0], none, 0⟩] := Eq.trans rfl rfl
theorem er24_2 (φ : Nat → Nat) : r24_2 φ = [
  ⟨0, .N .mv, [.n 0], none, 0⟩,
  ⟨1, .N .mv, [.n 1], none, 0⟩,
  ⟨2, .calli false (φ 22), [.l 1, .l 0, .c (.int .i64 40)], none, 0⟩,
  ⟨3, .N (.alloc [.int .i64 0, .nils]), [], none, 0⟩,
  ⟨4, .X (.store 2), [.l 0, .l 1], none, 0⟩] := Eq.trans rfl rfl
theorem er24_3 (φ : Nat → Nat) : r24_3 φ = [
  ⟨0, .N (.fadd 0), [.n 6], none, 0⟩,
  ⟨1, .N .load1, [.l 0], none, 0⟩,
  ⟨2, .N (.bin .lss), [.l 0, .c (.int .i64 2)], none, 0⟩] := Eq.trans rfl rfl
theorem er24_4 (φ : Nat → Nat) : r24_4 φ = [
  ⟨0, .N .mv, [.n 5], none, 0⟩,
  ⟨1, .N .mv, [.l 0], none, 0⟩] := Eq.trans rfl rfl
theorem er24_5 (φ : Nat → Nat) : r24_5 φ = [
  ⟨0, .N (.idxA 2 1), [.n 3, .c (.int .i64 0)], none, 0⟩,
  ⟨1, .N .load1, [.l 0], none, 0⟩,
  ⟨2, .N (.bin .and), [.l 0, .c (.int .i64 65535)], none, 0⟩,
  ⟨3, .N (.fadd 0), [.n 6], none, 0⟩,
  ⟨4, .N .load1, [.l 0], none, 0⟩,
  ⟨5, .N (.bin .rem), [.l 2, .l 0], none, 0⟩,
  ⟨6, .N .mv, [.l 0], none, 0⟩] := Eq.trans rfl rfl
theorem er24_6 (φ : Nat → Nat) : r24_6 φ = [
  ⟨0, .N (.idxA 2 1), [.n 3, .c (.int .i64 1)], none, 0⟩,
  ⟨1, .N .load1, [.l 0], none, 0⟩,
  ⟨2, .N (.bin .and), [.l 0, .c (.int .i64 65535)], none, 0⟩,
  ⟨3, .N (.fadd 0), [.n 6], none, 0⟩,
  ⟨4, .N .load1, [.l 0], none, 0⟩,
  ⟨5, .N (.bin .rem), [.l 2, .l 0], none, 0⟩,
  ⟨6, .N .mv, [.l 0], none, 0⟩] := Eq.trans rfl rfl
theorem er24_7 (φ : Nat → Nat) : r24_7 φ = [
  ⟨0, .N (.bsl [.int .i64 0, .int .i64 0] 0 2 []), [], none, 0⟩,
  ⟨1, .N (.fadd 1), [.n 6], none, 0⟩,
  ⟨2, .N .load1, [.l 0], none, 0⟩,
  ⟨3, .X (.app 2 16), [.l 2, .l 0], none, 0⟩,
  ⟨4, .N .mv, [.l 0], none, 0⟩] := Eq.trans rfl rfl
theorem er24_8 (φ : Nat → Nat) : r24_8 φ = [
  ⟨0, .N (.loadN 2), [.n 6], none, 0⟩,
  ⟨1, .N .mv, [.n 7], none, 0⟩,
  ⟨2, .N .mv, [.n 8], none, 0⟩,
  ⟨3, .calli true (φ 8), [.l 2, .l 1, .l 0], none, 0⟩,
  ⟨4, .N .mv, [.l 0], none, 0⟩] := Eq.trans rfl rfl
theorem er24_9 (φ : Nat → Nat) : r24_9 φ = [
  ⟨0, .N (.loadN 2), [.n 6], none, 0⟩,
  ⟨1, .N .mv, [.n 7], none, 0⟩,
  ⟨2, .N .mv, [.n 8], none, 0⟩,
  ⟨3, .calli false (φ 15), [.l 2, .l 1, .l 0], none, 0⟩,
  ⟨4, .N .mv, [.l 0], none, 0⟩,
  ⟨5, .N (.ext 0), [.l 0], none, 0⟩,
  ⟨6, .N (.ext 1), [.l 1], none, 0⟩,
  ⟨7, .N (.alloc [.int .i64 0, .nils]), [], none, 0⟩,
  ⟨8, .X (.store 2), [.l 0, .l 2], none, 0⟩,
  ⟨9, .N .mv, [.l 2], none, 0⟩] := Eq.trans rfl rfl
theorem er24_10 (φ : Nat → Nat) : r24_10 φ = [
  ⟨0, .N .mv, [.n 7], none, 0⟩,
  ⟨1, .N .mv, [.n 8], none, 0⟩,
  ⟨2, .N (.bin .eql), [.l 1, .l 0], none, 0⟩] := Eq.trans rfl rfl
theorem er24_11 (φ : Nat → Nat) : r24_11 φ = [
  ⟨0, .N .mv, [.n 5], none, 0⟩,
  ⟨1, .N .mv, [.l 0], none, 0⟩,
  ⟨2, .N .mv, [.n 12], some (.l 0, true), 0⟩,
  ⟨3, .N (.bin .eql), [.l 0, .c (.int .i64 1)], some (.l 1, true), 0⟩,
  ⟨4, .N .pick, [.l 2, .l 0, .c (.bool false)], none, 0⟩,
  ⟨5, .N .mv, [.l 0], none, 0⟩,
  ⟨6, .N (.fadd 1), [.n 11], some (.l 0, true), 0⟩,
  ⟨7, .N .load1, [.l 0], some (.l 1, true), 0⟩,
  ⟨8, .N .lenS, [.l 0], some (.l 2, true), 0⟩,
  ⟨9, .N (.bin .eql), [.l 0, .c (.int .i64 0)], some (.l 3, true), 0⟩,
  ⟨10, .N .pick, [.l 4, .l 0, .c (.bool false)], none, 0⟩,
  ⟨11, .N .mv, [.l 0], none, 0⟩] := Eq.trans rfl rfl
theorem er24_12 (φ : Nat → Nat) : r24_12 φ = [
  ⟨0, .N .mv, [.n 12], none, 0⟩,
  ⟨1, .N (.bin .neq), [.l 0, .c (.int .i64 0)], none, 0⟩,
  ⟨2, .N .mv, [.l 0], none, 0⟩,
  ⟨3, .N (.loadN 2), [.n 11], some (.l 0, false), 0⟩,
  ⟨4, .N .mv, [.n 8], some (.l 1, false), 0⟩,
  ⟨5, .N .mv, [.n 7], some (.l 2, false), 0⟩,
  ⟨6, .calli true (φ 7), [.l 2, .l 1, .l 0], some (.l 3, false), 0⟩,
  ⟨7, .N (.un .not), [.l 0], some (.l 4, false), 0⟩,
  ⟨8, .N .pick, [.l 5, .c (.bool true), .l 0], none, 0⟩,
  ⟨9, .N .mv, [.l 0], none, 0⟩,
  ⟨10, .N (.fadd 1), [.n 11], some (.l 0, false), 0⟩,
  ⟨11, .N .load1, [.l 0], some (.l 1, false), 0⟩,
  ⟨12, .N .lenS, [.l 0], some (.l 2, false), 0⟩,
  ⟨13, .N .mv, [.n 9], some (.l 3, false), 0⟩,
  ⟨14, .N .lenS, [.l 0], some (.l 4, false), 0⟩,
  ⟨15, .N (.bin .add), [.l 0, .c (.int .i64 1)], some (.l 5, false), 0⟩,
  ⟨16, .N (.bin .neq), [.l 3, .l 0], some (.l 6, false), 0⟩,
  ⟨17, .N .mv, [.l 0], some (.l 7, false), 0⟩,
  ⟨18, .N .mv, [.n 10], some (.l 0, true), 0⟩,
  ⟨19, .N (.un .not), [.l 0], some (.l 1, true), 0⟩,
  ⟨20, .N .pick, [.l 2, .l 0, .c (.bool false)], some (.l 10, false), 0⟩,
  ⟨21, .N .pick, [.l 11, .c (.bool true), .l 0], none, 0⟩,
  ⟨22, .N .mv, [.l 0], none, 0⟩,
  ⟨23, .N .mv, [.n 10], some (.l 0, false), 0⟩,
  ⟨24, .N .mv, [.l 0], some (.l 1, false), 0⟩,
  ⟨25, .N (.loadN 2), [.n 11], some (.l 0, true), 0⟩,
  ⟨26, .N (.loadN 2), [.n 6], some (.l 1, true), 0⟩,
  ⟨27, .calli true (φ 3), [.l 1, .l 0], some (.l 2, true), 0⟩,
  ⟨28, .N (.un .not), [.l 0], some (.l 3, true), 0⟩,
  ⟨29, .N .pick, [.l 4, .l 0, .c (.bool false)], some (.l 6, false), 0⟩,
  ⟨30, .N .pick, [.l 7, .c (.bool true), .l 0], none, 0⟩] := Eq.trans rfl rfl
theorem er24_13 (φ : Nat → Nat) : r24_13 φ = [
  ⟨0, .N .mv, [.c (.bool false)], none, 0⟩] := Eq.trans rfl rfl
theorem er24_14 (φ : Nat → Nat) : r24_14 φ = [
  ⟨0, .N (.loadN 2), [.n 11], none, 0⟩,
  ⟨1, .N .mv, [.n 8], none, 0⟩,
  ⟨2, .N .mv, [.n 7], none, 0⟩,
  ⟨3, .calli false (φ 17), [.l 2, .l 1, .l 0], none, 0⟩,
  ⟨4, .N .mv, [.l 0], none, 0⟩,
  ⟨5, .N (.ext 0), [.l 0], none, 0⟩,
  ⟨6, .N (.ext 1), [.l 1], none, 0⟩,
  ⟨7, .N (.alloc [.int .i64 0, .nils]), [], none, 0⟩,
  ⟨8, .X (.store 2), [.l 0, .l 2], none, 0⟩,
  ⟨9, .N .mv, [.l 2], none, 0⟩] := Eq.trans rfl rfl
theorem er24_15 (φ : Nat → Nat) : r24_15 φ = [
  ⟨0, .N (.loadN 2), [.n 13], none, 0⟩,
  ⟨1, .N .mv, [.n 7], none, 0⟩,
  ⟨2, .N .mv, [.n 8], none, 0⟩,
  ⟨3, .calli false (φ 17), [.l 2, .l 1, .l 0], none, 0⟩,
  ⟨4, .N .mv, [.l 0], none, 0⟩,
  ⟨5, .N (.ext 0), [.l 0], none, 0⟩,
  ⟨6, .N (.ext 1), [.l 1], none, 0⟩,
  ⟨7, .N (.alloc [.int .i64 0, .nils]), [], none, 0⟩,
  ⟨8, .X (.store 2), [.l 0, .l 2], none, 0⟩,
  ⟨9, .N .mv, [.l 2], none, 0⟩] := Eq.trans rfl rfl
theorem er24_16 (φ : Nat → Nat) : r24_16 φ = [
  ⟨0, .N .mv, [.n 5], none, 0⟩,
  ⟨1, .N .mv, [.l 0], none, 0⟩,
  ⟨2, .N .mv, [.n 14], some (.l 0, true), 0⟩,
  ⟨3, .N (.bin .eql), [.l 0, .c (.int .i64 0)], some (.l 1, true), 0⟩,
  ⟨4, .N .pick, [.l 2, .l 0, .c (.bool false)], none, 0⟩,
  ⟨5, .N .mv, [.l 0], none, 0⟩,
  ⟨6, .N .mv, [.n 15], some (.l 0, true), 0⟩,
  ⟨7, .N (.bin .eql), [.l 0, .c (.int .i64 6)], some (.l 1, true), 0⟩,
  ⟨8, .N .pick, [.l 2, .l 0, .c (.bool false)], none, 0⟩,
  ⟨9, .N .mv, [.l 0], none, 0⟩,
  ⟨10, .N .mv, [.n 10], some (.l 0, true), 0⟩,
  ⟨11, .N .mv, [.l 0], some (.l 1, true), 0⟩,
  ⟨12, .N (.fadd 1), [.n 13], some (.l 0, false), 0⟩,
  ⟨13, .N .load1, [.l 0], some (.l 1, false), 0⟩,
  ⟨14, .N .mv, [.n 9], some (.l 2, false), 0⟩,
  ⟨15, .calli true (φ 23), [.l 1, .l 0], some (.l 3, false), 0⟩,
  ⟨16, .N .pick, [.l 4, .c (.bool true), .l 0], some (.l 6, true), 0⟩,
  ⟨17, .N .pick, [.l 7, .l 0, .c (.bool false)], none, 0⟩,
  ⟨18, .N .mv, [.l 0], none, 0⟩,
  ⟨19, .N (.fadd 1), [.n 6], some (.l 0, true), 0⟩,
  ⟨20, .N .load1, [.l 0], some (.l 1, true), 0⟩,
  ⟨21, .N .mv, [.n 9], some (.l 2, true), 0⟩,
  ⟨22, .calli true (φ 23), [.l 1, .l 0], some (.l 3, true), 0⟩,
  ⟨23, .N .pick, [.l 4, .l 0, .c (.bool false)], none, 0⟩,
  ⟨24, .N .mv, [.l 0], none, 0⟩] := Eq.trans rfl rfl
theorem any_right (n : Int) (l : List Ed) {most : Int} (h0 : 0 ≤ most) (h1 : most ≤ 1000) : rightE (anyN n most) (anyE n most l) = true := by
  have := @normalE_right (anyN n most) (anyL (anyN n most) l)
  rw [any_normal l h0 h1] at this
  exact this rfl
theorem anyE_len (n most : Int) (l : List Ed) : (anyE n most l).length ≤ 300 := Nat.le_trans (setE_le _) (anyL_len _ _)
theorem right_ends {n : Int} {es : List Ed} (h : rightE n es = true) : ∀ x ∈ es, 0 ≤ x.1 ∧ x.1 < x.2 ∧ x.2 < n := by
  intro x hx
  obtain ⟨i, hi, rfl⟩ := List.getElem_of_mem hx
  exact right_step h hi
theorem back_facts {N : Int} {E : List Ed} {a b : Int} (hR : rightE N E = true) (hl : E.length ≤ 300) (ha : 0 ≤ a ∧ a < N) (hb : 0 ≤ b ∧ b < N) (hab : a ≠ b) :
    ∃ X Y, addE N E a b = (N, X, 0) ∧ rightE N X = true ∧ hasE N X b a = true ∧ (hasE N E a b = true → X = E) ∧ (hasE N E a b = false → X.length = E.length + 1) ∧
      withoutE N X b a = (N, Y, 0) ∧ withoutE N Y a b = (0, [], 6) ∧ (hasE N E a b = false → Y = E) ∧ X.length ≤ 4000 ∧ Y.length ≤ 4000 := by
  have hn := right_len hR
  have hEe := right_ends hR
  have hok : (E ++ [(a, b)]).all (okEnds N) = true := by
    rw [List.all_append, Bool.and_eq_true, List.all_eq_true]
    refine ⟨fun x hx => ?_, ?_⟩
    · have := hEe x hx
      rw [okEnds, decide_eq_true (by omega), decide_eq_true (by omega)]; rfl
    · simp only [List.all_cons, List.all_nil, Bool.and_true]
      rw [okEnds, decide_eq_true (by simp only; omega), decide_eq_true (by simp only; omega)]; rfl
  have hlen : (setE (E ++ [(a, b)])).length ≤ 4000 := by
    have := setE_le (E ++ [(a, b)])
    simp at this; omega
  have hnE := normalE_ok hn.1 hn.2.1 hok hlen
  have hmem : ∀ x, x ∈ setE (E ++ [(a, b)]) ↔ x ∈ E ∨ x = (min a b, max a b) := by
    intro x
    rw [setE_mem, normsE_mem]
    constructor
    · rintro ⟨y, hy, hne, rfl⟩
      rcases List.mem_append.1 hy with hy | hy
      · have := hEe y hy
        left
        rw [Int.min_eq_left (by omega), Int.max_eq_right (by omega)]; exact hy
      · simp at hy; subst hy; right; rfl
    · rintro (h | rfl)
      · have := hEe x h
        exact ⟨x, List.mem_append_left _ h, by omega, by rw [Int.min_eq_left (by omega), Int.max_eq_right (by omega)]⟩
      · exact ⟨(a, b), by simp, hab, rfl⟩
  have hXR : rightE N (setE (E ++ [(a, b)])) = true := by
    have := @normalE_right N (E ++ [(a, b)])
    rw [hnE] at this
    exact this rfl
  have hadd : addE N E a b = (N, setE (E ++ [(a, b)]), 0) := by
    rw [addE_def, if_neg (by simp [hR]), if_neg (by omega), if_neg hab, hnE]
  have hXs := setE_strict (E ++ [(a, b)])
  generalize setE (E ++ [(a, b)]) = X at *
  have hmX : (min a b, max a b) ∈ X := (hmem _).2 (.inr rfl)
  have hY := strict_erase (min a b, max a b) hXs
  have hmY : ∀ x, x ∈ X.erase (min a b, max a b) ↔ x ∈ X ∧ x ≠ (min a b, max a b) := by
    intro x; rw [hY, List.mem_filter]; simp
  have hYs : (X.erase (min a b, max a b)).Pairwise ltE := by rw [hY]; exact hXs.filter _
  have hYl : (X.erase (min a b, max a b)).length = X.length - 1 := List.length_erase_of_mem hmX
  have hXe := right_ends hXR
  have hYR : rightE N (X.erase (min a b, max a b)) = true := right_of hn.1 hn.2.1 (by omega) hYs (fun x hx => hXe x ((hmY x).1 hx).1)
  have hXp : 0 < X.length := List.length_pos_of_mem hmX
  have hEs := right_strict hR
  have hYE : hasE N E a b = false → X.erase (min a b, max a b) = E := by
    intro h
    rw [hasE_min hR, decide_eq_false_iff_not] at h
    refine strict_eq _ _ hYs hEs fun x => ?_
    rw [hmY, hmem]
    constructor
    · rintro ⟨h1 | h1, h2⟩
      · exact h1
      · exact absurd h1 h2
    · exact fun h1 => ⟨.inl h1, fun e => h (e ▸ h1)⟩
  refine ⟨X, X.erase (min a b, max a b), hadd, hXR, ?_, fun h => ?_, fun h => ?_, ?_, ?_, hYE, hlen, by omega⟩
  · rw [hasE_min hXR, decide_eq_true_eq, Int.min_comm, Int.max_comm]; exact hmX
  · rw [hasE_min hR, decide_eq_true_eq] at h
    refine strict_eq _ _ hXs hEs fun x => ?_
    rw [hmem]
    exact ⟨fun h1 => h1.elim id (fun e => e ▸ h), .inl⟩
  · have := congrArg List.length (hYE h)
    omega
  · unfold withoutE
    rw [if_neg (by simp [hXR]), if_pos (by rw [Int.min_comm, Int.max_comm]; exact hmX), Int.min_comm b a, Int.max_comm b a]
  · unfold withoutE
    rw [if_neg (by simp [hYR]), if_neg (fun h => ((hmY _).1 h).2 rfl)]
theorem w_GraphBack (h : Has A (φ 24) (f24 φ)) (hS : PVal A (φ 0) [] (.bool true)) (g : GC A φ) (n : Int) (v : AV) (l : List Ed) (hv : IsE v l) (e0 e1 : Int) :
    PVal A (φ 24) [.int .i64 n, v, .agg [.int .i64 e0, .int .i64 e1]] (.bool true) := by
  have hsh := hS.eq
  have hcl := hv.closed
  have c0 := (g.any n 40 v l hv (by omega) (by omega)).eq
  have hR := any_right n l (most := 40) (by omega) (by omega)
  have hEl := anyE_len n 40 l
  have hNr := anyN_range (n := n) (most := 40) (by omega)
  generalize anyN n 40 = N at *
  generalize anyE n 40 l = E at *
  have iE := isE_r E
  refine pval_has h rfl ?_
  simp only [b24, f24]
  have rr : ∀ x : Int, N ≠ 0 → binV .rem (.int .i64 (x % 65536)) (.int .i64 N) = some (.int .i64 ((x % 65536).tmod N)) := fun x hx => b_rem _ _ _ hx
  by_cases h2 : N < 2
  · simp [↓getD_z, ↓getD_s, -List.getD_eq_getElem?_getD, -Int.ofNat_toNat, -getElem?_pos, gz, ↓hid_k, ↓hid_o, ↓hid_q, ↓hid_v, ↓PO_nil, ↓PO_none, ↓PO_grd, ↓PD_nil, ↓PD_none, ↓PD_grd, ↓PDO_N, ↓PDO_X, ↓PDO_call, ↓PDO_calli, ↓PDO_callv, PDX_free, PDX_eq, ↓PStep_N, ↓PStep_X, ↓PStep_call, ↓PStep_calli, PStep_callv, ↓PC_skip, ↓PC_lab, ↓PC_ret, ↓PC_exit, ↓PC_reg, ↓PC_draw, ↓PC_seq, ↓PC_block, ↓PC_loop, ↓PC_scope, ↓PC_cond, ↓thenC_norm, ↓thenC_ret, ↓thenC_exit, ↓blockC_norm, ↓blockC_ret, ↓blockC_exit, ↓loopC_norm, ↓loopC_ret, ↓loopC_exit, ↓endR_ret, ↓endR_norm, resK_none, resK_t, resK_tt, KNO_val, KNO_new, KNO_ite, KNO_map, KXO_some, KXO_ite, KVA_t, KVA_f, KG_skip, KG_tt, KG_ff, KG_tf, KG_ft, KB_true, KB_false, KNOD_val, KNOD_new, KNOD_ite, n_mv, n_pick, n_bin, n_eqB, n_eqN, n_eqS, n_un, n_conv, n_fadd, n_faddV, n_fld1, n_fldN, n_idx, n_idxA, n_idxV, n_idxAV, n_ext, n_lenS, n_lenS0, n_lenV, n_lenT, n_lenA, n_min, n_max, n_build, n_mkfn, n_slc, n_slc0, n_slcV, n_slcA, n_load1, n_loadN, n_load1V, n_loadNV, n_alloc, n_box, n_bsl, n_mksl, n_nilcP, n_nilcV, n_nilcI, n_nilcF, x_store, x_clear0, x_clear, b_add, b_sub, b_mul, b_eql, b_neq, b_lss, b_leq, b_gtr, b_geq, b_and16, unV, ntouch, gather, hide, unhide, evalOpd, applyOuts, int_bne, int_beq, ite_bool, ite_int, one_bool, cells_bool, one_int, cells_int, one_str, cells_str, one_nilp, cells_nilp, one_ptr, cells_ptr, one_nils, cells_nils, one_sl, cells_sl, one_nilf, cells_nilf, one_fn, cells_fn, one_nili, cells_nili, one_mp, cells_mp, one_nilm, cells_nilm, one_iface, cells_iface, one_vs, cells_vs, one_vp, cells_vp, cells_agg, Nat.testBit, setAt_1, setAt_2, closeds_nil, closeds_cons, closed_bool, closed_int, closed_str, closed_nilp, closed_nils, closed_nilm, closed_nilf, closed_nili, closed_agg, closed_tup, closed_vs, closed_vp, closed_iface, closed_fn, closeds_cI, closeds_cE, viewA_closed, viewR_closed, AV.scal, AV.scal0, fillA, repA, part_bool, part_int, part_str, part_nilp, part_ptr, part_nils, part_sl, part_nilm, part_mp, part_nilf, part_fn, part_nili, part_iface, part_agg, part_vs, part_vp, viewA_sl1, vaSl_cells, wrap_0, wrap_1, wrap_2, wrap_m1, set_last, get_last, er24_0, er24_1, er24_2, er24_3, er24_4, er24_5, er24_6, er24_7, er24_8, er24_9, er24_10, er24_11, er24_12, er24_13, er24_14, er24_15, er24_16, hsh, hcl, c0, iE.closed, iE.one, iE.cells, h2, resK, resVs, resV, pack]
  · have hN0 : N ≠ 0 := by omega
    have ra : 0 ≤ (e0 % 65536).tmod N ∧ (e0 % 65536).tmod N < N := by
      rw [Int.tmod_eq_emod_of_nonneg (Int.emod_nonneg _ (by decide))]
      exact ⟨Int.emod_nonneg _ (by omega), Int.emod_lt_of_pos _ (by omega)⟩
    have rb : 0 ≤ (e1 % 65536).tmod N ∧ (e1 % 65536).tmod N < N := by
      rw [Int.tmod_eq_emod_of_nonneg (Int.emod_nonneg _ (by decide))]
      exact ⟨Int.emod_nonneg _ (by omega), Int.emod_lt_of_pos _ (by omega)⟩
    have r1 := rr e0 hN0
    have r2 := rr e1 hN0
    generalize (e0 % 65536).tmod N = a at *
    generalize (e1 % 65536).tmod N = b at *
    have b0 : Own false 2 ([.cells 0 false [.int .i64 e0, .int .i64 e1], .cells 0 false [.int .i64 N, rE E], .cells 0 false []] : Heap) (.sl 2 0 0 0 2 0 true) 2 0 [] := .inl ⟨rfl, rfl, 2, 0, 0, rfl⟩
    obtain ⟨o, H', x1, x2, x3, x4, x5⟩ := Own.app (bytes := 16) b0 (iE.src _) (cellsE_length _) (ones_cE _) (by simp) (by simp; omega)
    have q0 : H'[0]? = some (.cells 0 false [.int .i64 e0, .int .i64 e1]) := by rw [x3 0 (by simp) (by simp [blkOf])]; rfl
    have q1 : H'[1]? = some (.cells 0 false [.int .i64 N, rE E]) := by rw [x3 1 (by simp) (by simp [blkOf])]; rfl
    have q1J : ∀ J, (H' ++ J)[1]? = some (.cells 0 false [.int .i64 N, rE E]) := fun J => get_more J q1
    have hown : OwnE false 2 H' o E := by simpa [OwnE] using x2
    have hln : ∀ rd, nstep .lenS [o] rd = some (.val (.int .i64 E.length)) := (Own.vw hown).len
    have hva : ∀ (J : Heap) (x : AV), x.closed = true → viewA (H' ++ J) [x, o] = some ([x, rv false E.length 2 (cellsE E)], frzOf (H' ++ J) o) := fun J x hx => (Own.vw (hown.more J)).r2 (closeds_cE E) x hx
    have iV : IsE (rv false E.length 2 (cellsE E)) E := is_rv (cellsE_length E) (closeds_cE E)
    have c1 := (g.rhas N a b _ E iE).eq
    have c2 := (g.add N a b _ E iE).eq
    have c9 := (g.sameE _ _ _ _ iE iV (by omega)).eq
    have hEw : IntKind.i64.wrap ((E.length : Int) + 1) = (E.length : Int) + 1 := wrap_in (by omega) (by omega)
    by_cases hab : a = b
    · subst hab
      have hf : addE N E a a = (0, [], 1) := by rw [addE_def, if_neg (by simp [hR]), if_neg (by omega), if_pos rfl]
      rw [hf] at c2
      have hz : rE [] = AV.nils := rfl
      simp only [gR, hz] at c2
      generalize rE E = uE at *
      simp [↓getD_z, ↓getD_s, -List.getD_eq_getElem?_getD, -Int.ofNat_toNat, -getElem?_pos, gz, ↓hid_k, ↓hid_o, ↓hid_q, ↓hid_v, ↓PO_nil, ↓PO_none, ↓PO_grd, ↓PD_nil, ↓PD_none, ↓PD_grd, ↓PDO_N, ↓PDO_X, ↓PDO_call, ↓PDO_calli, ↓PDO_callv, PDX_free, PDX_eq, ↓PStep_N, ↓PStep_X, ↓PStep_call, ↓PStep_calli, PStep_callv, ↓PC_skip, ↓PC_lab, ↓PC_ret, ↓PC_exit, ↓PC_reg, ↓PC_draw, ↓PC_seq, ↓PC_block, ↓PC_loop, ↓PC_scope, ↓PC_cond, ↓thenC_norm, ↓thenC_ret, ↓thenC_exit, ↓blockC_norm, ↓blockC_ret, ↓blockC_exit, ↓loopC_norm, ↓loopC_ret, ↓loopC_exit, ↓endR_ret, ↓endR_norm, resK_none, resK_t, resK_tt, KNO_val, KNO_new, KNO_ite, KNO_map, KXO_some, KXO_ite, KVA_t, KVA_f, KG_skip, KG_tt, KG_ff, KG_tf, KG_ft, KB_true, KB_false, KNOD_val, KNOD_new, KNOD_ite, n_mv, n_pick, n_bin, n_eqB, n_eqN, n_eqS, n_un, n_conv, n_fadd, n_faddV, n_fld1, n_fldN, n_idx, n_idxA, n_idxV, n_idxAV, n_ext, n_lenS, n_lenS0, n_lenV, n_lenT, n_lenA, n_min, n_max, n_build, n_mkfn, n_slc, n_slc0, n_slcV, n_slcA, n_load1, n_loadN, n_load1V, n_loadNV, n_alloc, n_box, n_bsl, n_mksl, n_nilcP, n_nilcV, n_nilcI, n_nilcF, x_store, x_clear0, x_clear, b_add, b_sub, b_mul, b_eql, b_neq, b_lss, b_leq, b_gtr, b_geq, b_and16, unV, ntouch, gather, hide, unhide, evalOpd, applyOuts, int_bne, int_beq, ite_bool, ite_int, one_bool, cells_bool, one_int, cells_int, one_str, cells_str, one_nilp, cells_nilp, one_ptr, cells_ptr, one_nils, cells_nils, one_sl, cells_sl, one_nilf, cells_nilf, one_fn, cells_fn, one_nili, cells_nili, one_mp, cells_mp, one_nilm, cells_nilm, one_iface, cells_iface, one_vs, cells_vs, one_vp, cells_vp, cells_agg, Nat.testBit, setAt_1, setAt_2, closeds_nil, closeds_cons, closed_bool, closed_int, closed_str, closed_nilp, closed_nils, closed_nilm, closed_nilf, closed_nili, closed_agg, closed_tup, closed_vs, closed_vp, closed_iface, closed_fn, closeds_cI, closeds_cE, viewA_closed, viewR_closed, AV.scal, AV.scal0, fillA, repA, part_bool, part_int, part_str, part_nilp, part_ptr, part_nils, part_sl, part_nilm, part_mp, part_nilf, part_fn, part_nili, part_iface, part_agg, part_vs, part_vp, viewA_sl1, vaSl_cells, wrap_0, wrap_1, wrap_2, wrap_m1, set_last, get_last, er24_0, er24_1, er24_2, er24_3, er24_4, er24_5, er24_6, er24_7, er24_8, er24_9, er24_10, er24_11, er24_12, er24_13, er24_14, er24_15, er24_16, hsh, hcl, c0, iE.closed, iE.one, iE.cells, h2, r1, r2, x1, q0, q1, q1J, c1, c2, get_at, get_at0, set_at, set_at0, resK, resVs, resV, pack]
    · obtain ⟨X, Y, f1, f2, f3, f4, f5, f6, f7, f8, f9, f10⟩ := back_facts hR hEl ra rb hab
      rw [f1] at c2
      have iX := isE_r X
      have iY0 : IsE (rv false Y.length 2 (cellsE Y)) Y := is_rv (cellsE_length Y) (closeds_cE Y)
      have c3 := (g.has N b a _ X iX).eq
      have c4 := (g.without N b a _ X iX).eq
      have c5 := (g.without N a b _ Y iY0).eq
      have c6 := (g.sameG N N _ _ X E iX iE (by omega)).eq
      have c7 := (g.sameE _ _ _ _ iY0 iV (by omega)).eq
      rw [f3] at c3; rw [f6] at c4; rw [f7] at c5
      have hXl := iX.len
      have z1 : rv (decide ((0 : Int) ≠ 0)) Y.length 2 (cellsE Y) = rv false Y.length 2 (cellsE Y) := rfl
      have z2 : rv (decide ((6 : Int) ≠ 0)) ([] : List Ed).length 2 (cellsE []) = .nils := rfl
      simp only [gR, gW, z1, z2] at c2 c4 c5
      cases hh : hasE N E a b with
      | true =>
        have e1 := f4 hh
        subst e1
        rw [hh] at c1
        have hne : ¬ ((X.length : Int) = (X.length : Int) + 1) := by omega
        generalize rE X = uX at *
        generalize rv false Y.length 2 (cellsE Y) = uY at *
        generalize rv false X.length 2 (cellsE X) = uV at *
        simp [↓getD_z, ↓getD_s, -List.getD_eq_getElem?_getD, -Int.ofNat_toNat, -getElem?_pos, gz, ↓hid_k, ↓hid_o, ↓hid_q, ↓hid_v, ↓PO_nil, ↓PO_none, ↓PO_grd, ↓PD_nil, ↓PD_none, ↓PD_grd, ↓PDO_N, ↓PDO_X, ↓PDO_call, ↓PDO_calli, ↓PDO_callv, PDX_free, PDX_eq, ↓PStep_N, ↓PStep_X, ↓PStep_call, ↓PStep_calli, PStep_callv, ↓PC_skip, ↓PC_lab, ↓PC_ret, ↓PC_exit, ↓PC_reg, ↓PC_draw, ↓PC_seq, ↓PC_block, ↓PC_loop, ↓PC_scope, ↓PC_cond, ↓thenC_norm, ↓thenC_ret, ↓thenC_exit, ↓blockC_norm, ↓blockC_ret, ↓blockC_exit, ↓loopC_norm, ↓loopC_ret, ↓loopC_exit, ↓endR_ret, ↓endR_norm, resK_none, resK_t, resK_tt, KNO_val, KNO_new, KNO_ite, KNO_map, KXO_some, KXO_ite, KVA_t, KVA_f, KG_skip, KG_tt, KG_ff, KG_tf, KG_ft, KB_true, KB_false, KNOD_val, KNOD_new, KNOD_ite, n_mv, n_pick, n_bin, n_eqB, n_eqN, n_eqS, n_un, n_conv, n_fadd, n_faddV, n_fld1, n_fldN, n_idx, n_idxA, n_idxV, n_idxAV, n_ext, n_lenS, n_lenS0, n_lenV, n_lenT, n_lenA, n_min, n_max, n_build, n_mkfn, n_slc, n_slc0, n_slcV, n_slcA, n_load1, n_loadN, n_load1V, n_loadNV, n_alloc, n_box, n_bsl, n_mksl, n_nilcP, n_nilcV, n_nilcI, n_nilcF, x_store, x_clear0, x_clear, b_add, b_sub, b_mul, b_eql, b_neq, b_lss, b_leq, b_gtr, b_geq, b_and16, unV, ntouch, gather, hide, unhide, evalOpd, applyOuts, int_bne, int_beq, ite_bool, ite_int, one_bool, cells_bool, one_int, cells_int, one_str, cells_str, one_nilp, cells_nilp, one_ptr, cells_ptr, one_nils, cells_nils, one_sl, cells_sl, one_nilf, cells_nilf, one_fn, cells_fn, one_nili, cells_nili, one_mp, cells_mp, one_nilm, cells_nilm, one_iface, cells_iface, one_vs, cells_vs, one_vp, cells_vp, cells_agg, Nat.testBit, setAt_1, setAt_2, closeds_nil, closeds_cons, closed_bool, closed_int, closed_str, closed_nilp, closed_nils, closed_nilm, closed_nilf, closed_nili, closed_agg, closed_tup, closed_vs, closed_vp, closed_iface, closed_fn, closeds_cI, closeds_cE, viewA_closed, viewR_closed, AV.scal, AV.scal0, fillA, repA, part_bool, part_int, part_str, part_nilp, part_ptr, part_nils, part_sl, part_nilm, part_mp, part_nilf, part_fn, part_nili, part_iface, part_agg, part_vs, part_vp, viewA_sl1, vaSl_cells, wrap_0, wrap_1, wrap_2, wrap_m1, set_last, get_last, er24_0, er24_1, er24_2, er24_3, er24_4, er24_5, er24_6, er24_7, er24_8, er24_9, er24_10, er24_11, er24_12, er24_13, er24_14, er24_15, er24_16, hsh, hcl, c0, iE.closed, iE.one, iE.cells, h2, r1, r2, x1, q0, q1, q1J, c1, c2, c3, c4, c5, c6, c7, c9, hab, hne, hln, hXl, hEw, hva, iX.closed, iX.one, iX.cells, iY0.closed, iY0.one, iY0.cells, get_at, get_at0, set_at, set_at0, resK, resVs, resV, pack]
      | false =>
        have e1 := f5 hh
        have e2 := f8 hh
        subst e2
        rw [hh] at c1
        have e1' : (X.length : Int) = (Y.length : Int) + 1 := by omega
        generalize rE X = uX at *
        generalize rE Y = uE at *
        generalize rv false Y.length 2 (cellsE Y) = uY at *
        simp [↓getD_z, ↓getD_s, -List.getD_eq_getElem?_getD, -Int.ofNat_toNat, -getElem?_pos, gz, ↓hid_k, ↓hid_o, ↓hid_q, ↓hid_v, ↓PO_nil, ↓PO_none, ↓PO_grd, ↓PD_nil, ↓PD_none, ↓PD_grd, ↓PDO_N, ↓PDO_X, ↓PDO_call, ↓PDO_calli, ↓PDO_callv, PDX_free, PDX_eq, ↓PStep_N, ↓PStep_X, ↓PStep_call, ↓PStep_calli, PStep_callv, ↓PC_skip, ↓PC_lab, ↓PC_ret, ↓PC_exit, ↓PC_reg, ↓PC_draw, ↓PC_seq, ↓PC_block, ↓PC_loop, ↓PC_scope, ↓PC_cond, ↓thenC_norm, ↓thenC_ret, ↓thenC_exit, ↓blockC_norm, ↓blockC_ret, ↓blockC_exit, ↓loopC_norm, ↓loopC_ret, ↓loopC_exit, ↓endR_ret, ↓endR_norm, resK_none, resK_t, resK_tt, KNO_val, KNO_new, KNO_ite, KNO_map, KXO_some, KXO_ite, KVA_t, KVA_f, KG_skip, KG_tt, KG_ff, KG_tf, KG_ft, KB_true, KB_false, KNOD_val, KNOD_new, KNOD_ite, n_mv, n_pick, n_bin, n_eqB, n_eqN, n_eqS, n_un, n_conv, n_fadd, n_faddV, n_fld1, n_fldN, n_idx, n_idxA, n_idxV, n_idxAV, n_ext, n_lenS, n_lenS0, n_lenV, n_lenT, n_lenA, n_min, n_max, n_build, n_mkfn, n_slc, n_slc0, n_slcV, n_slcA, n_load1, n_loadN, n_load1V, n_loadNV, n_alloc, n_box, n_bsl, n_mksl, n_nilcP, n_nilcV, n_nilcI, n_nilcF, x_store, x_clear0, x_clear, b_add, b_sub, b_mul, b_eql, b_neq, b_lss, b_leq, b_gtr, b_geq, b_and16, unV, ntouch, gather, hide, unhide, evalOpd, applyOuts, int_bne, int_beq, ite_bool, ite_int, one_bool, cells_bool, one_int, cells_int, one_str, cells_str, one_nilp, cells_nilp, one_ptr, cells_ptr, one_nils, cells_nils, one_sl, cells_sl, one_nilf, cells_nilf, one_fn, cells_fn, one_nili, cells_nili, one_mp, cells_mp, one_nilm, cells_nilm, one_iface, cells_iface, one_vs, cells_vs, one_vp, cells_vp, cells_agg, Nat.testBit, setAt_1, setAt_2, closeds_nil, closeds_cons, closed_bool, closed_int, closed_str, closed_nilp, closed_nils, closed_nilm, closed_nilf, closed_nili, closed_agg, closed_tup, closed_vs, closed_vp, closed_iface, closed_fn, closeds_cI, closeds_cE, viewA_closed, viewR_closed, AV.scal, AV.scal0, fillA, repA, part_bool, part_int, part_str, part_nilp, part_ptr, part_nils, part_sl, part_nilm, part_mp, part_nilf, part_fn, part_nili, part_iface, part_agg, part_vs, part_vp, viewA_sl1, vaSl_cells, wrap_0, wrap_1, wrap_2, wrap_m1, set_last, get_last, er24_0, er24_1, er24_2, er24_3, er24_4, er24_5, er24_6, er24_7, er24_8, er24_9, er24_10, er24_11, er24_12, er24_13, er24_14, er24_15, er24_16, hsh, hcl, c0, iE.closed, iE.one, iE.cells, h2, r1, r2, x1, q0, q1, q1J, c1, c2, c3, c4, c5, c6, c7, c9, hab, hln, hXl, hEw, e1', hva, iX.closed, iX.one, iX.cells, iY0.closed, iY0.one, iY0.cells, get_at, get_at0, set_at, set_at0, resK, resVs, resV, pack]
end Go.Ai.G
/- GraphSet. -/
namespace Go.Ai.G
open Go.Ai
set_option maxRecDepth 100000
set_option linter.unusedSimpArgs false
set_option linter.unusedVariables false
variable {A : AProg} {φ : Nat → Nat}
theorem er20_0 (φ : Nat → Nat) : r20_0 φ = [
  ⟨0, .N .mv, [.c (.bool false)], none, 0⟩] := Eq.trans rfl rfl
theorem er20_1 (φ : Nat → Nat) : r20_1 φ = [
  ⟨0, .calli true (φ 0), [], none, 0⟩,
  ⟨1, .N .mv, [.l 0], none, 0⟩] := Eq.trans rfl rfl
theorem er20_2 (φ : Nat → Nat) : r20_2 φ = [
  ⟨0, .N .mv, [.n 0], none, 0⟩,
  ⟨1, .N (.bin .and), [.l 0, .c (.int .i64 65535)], none, 0⟩,
  ⟨2, .N (.bin .rem), [.l 0, .c (.int .i64 31)], none, 0⟩,
  ⟨3, .N .mv, [.l 0], none, 0⟩] := Eq.trans rfl rfl
theorem er20_3 (φ : Nat → Nat) : r20_3 φ = [
  ⟨0, .N .mv, [.c (.nils)], none, 0⟩] := Eq.trans rfl rfl
theorem er20_4 (φ : Nat → Nat) : r20_4 φ = [
  ⟨0, .N .mv, [.c (.int .i64 0)], none, 0⟩] := Eq.trans rfl rfl
theorem er20_5 (φ : Nat → Nat) : r20_5 φ = [
  ⟨0, .N .mv, [.n 5], none, 0⟩,
  ⟨1, .N .mv, [.n 1], none, 0⟩,
  ⟨2, .N .lenS, [.l 0], none, 0⟩,
  ⟨3, .N (.bin .lss), [.l 2, .l 0], none, 0⟩,
  ⟨4, .N .mv, [.l 0], none, 0⟩,
  ⟨5, .N .mv, [.n 5], some (.l 0, true), 0⟩,
  ⟨6, .N (.bin .lss), [.l 0, .c (.int .i64 300)], some (.l 1, true), 0⟩,
  ⟨7, .N .pick, [.l 2, .l 0, .c (.bool false)], none, 0⟩,
  ⟨8, .N .mv, [.l 0], none, 0⟩,
  ⟨9, .N .mv, [.n 0], some (.l 0, true), 0⟩,
  ⟨10, .N (.bin .gtr), [.l 0, .c (.int .i64 0)], some (.l 1, true), 0⟩,
  ⟨11, .N .pick, [.l 2, .l 0, .c (.bool false)], none, 0⟩] := Eq.trans rfl rfl
theorem er20_6 (φ : Nat → Nat) : r20_6 φ = [
  ⟨0, .N .mv, [.n 4], none, 0⟩,
  ⟨1, .N .mv, [.n 1], none, 0⟩,
  ⟨2, .N .mv, [.n 5], none, 0⟩,
  ⟨3, .N (.idx 2), [.l 1, .l 0], none, 6⟩,
  ⟨4, .N (.fadd 0), [.l 0], none, 14⟩,
  ⟨5, .N .load1, [.l 0], none, 30⟩,
  ⟨6, .N (.bin .and), [.l 0, .c (.int .i64 65535)], none, 62⟩,
  ⟨7, .N .mv, [.n 0], none, 0⟩,
  ⟨8, .N (.bin .rem), [.l 1, .l 0], none, 254⟩,
  ⟨9, .N .mv, [.n 1], none, 0⟩,
  ⟨10, .N .mv, [.n 5], none, 0⟩,
  ⟨11, .N (.idx 2), [.l 1, .l 0], none, 1536⟩,
  ⟨12, .N (.fadd 1), [.l 0], none, 3584⟩,
  ⟨13, .N .load1, [.l 0], none, 7680⟩,
  ⟨14, .N (.bin .and), [.l 0, .c (.int .i64 65535)], none, 15872⟩,
  ⟨15, .N .mv, [.n 0], none, 0⟩,
  ⟨16, .N (.bin .rem), [.l 1, .l 0], none, 65024⟩,
  ⟨17, .N (.build [.int .i64 0, .int .i64 0] [(0, 1), (1, 1)]), [.l 8, .l 0], none, 131070⟩,
  ⟨18, .N (.bsl [.int .i64 0, .int .i64 0] 1 2 [(0, 2)]), [.l 0], none, 262142⟩,
  ⟨19, .X (.app 2 16), [.l 18, .l 0], none, 524287⟩,
  ⟨20, .N .mv, [.l 0], none, 1048575⟩] := Eq.trans rfl rfl
theorem er20_7 (φ : Nat → Nat) : r20_7 φ = [
  ⟨0, .N .mv, [.n 5], none, 0⟩,
  ⟨1, .N (.bin .add), [.l 0, .c (.int .i64 1)], none, 0⟩,
  ⟨2, .N .mv, [.l 0], none, 0⟩] := Eq.trans rfl rfl
theorem er20_9 (φ : Nat → Nat) : r20_9 φ = [
  ⟨0, .N .mv, [.n 0], none, 0⟩,
  ⟨1, .N .mv, [.n 4], none, 0⟩,
  ⟨2, .calli false (φ 1), [.l 1, .l 0], none, 0⟩,
  ⟨3, .N .mv, [.l 0], none, 0⟩,
  ⟨4, .N (.ext 0), [.l 0], none, 0⟩,
  ⟨5, .N (.ext 1), [.l 1], none, 0⟩,
  ⟨6, .N (.alloc [.int .i64 0, .nils]), [], none, 0⟩,
  ⟨7, .X (.store 2), [.l 0, .l 2], none, 0⟩,
  ⟨8, .N .mv, [.l 2], none, 0⟩] := Eq.trans rfl rfl
theorem er20_10 (φ : Nat → Nat) : r20_10 φ = [
  ⟨0, .N .mv, [.n 7], none, 0⟩,
  ⟨1, .N (.bin .neq), [.l 0, .c (.int .i64 0)], none, 0⟩,
  ⟨2, .N .mv, [.l 0], none, 0⟩,
  ⟨3, .N (.fadd 0), [.n 6], some (.l 0, false), 0⟩,
  ⟨4, .N .load1, [.l 0], some (.l 1, false), 0⟩,
  ⟨5, .N .mv, [.n 0], some (.l 2, false), 0⟩,
  ⟨6, .N (.bin .neq), [.l 1, .l 0], some (.l 3, false), 0⟩,
  ⟨7, .N .pick, [.l 4, .c (.bool true), .l 0], none, 0⟩] := Eq.trans rfl rfl
theorem er20_11 (φ : Nat → Nat) : r20_11 φ = [
  ⟨0, .N .mv, [.c (.bool false)], none, 0⟩] := Eq.trans rfl rfl
theorem er20_12 (φ : Nat → Nat) : r20_12 φ = [
  ⟨0, .N .mv, [.n 0], none, 0⟩,
  ⟨1, .N .mv, [.n 0], none, 0⟩,
  ⟨2, .N (.bin .mul), [.l 1, .l 0], none, 0⟩,
  ⟨3, .N (.mksl [.bool false] 1 1), [.l 0, .l 0], none, 0⟩,
  ⟨4, .N .mv, [.l 0], none, 0⟩] := Eq.trans rfl rfl
theorem er20_13 (φ : Nat → Nat) : r20_13 φ = [
  ⟨0, .N .mv, [.c (.int .i64 0)], none, 0⟩] := Eq.trans rfl rfl
theorem er20_14 (φ : Nat → Nat) : r20_14 φ = [
  ⟨0, .N .mv, [.n 9], none, 0⟩,
  ⟨1, .N .mv, [.n 4], none, 0⟩,
  ⟨2, .N .lenS, [.l 0], none, 0⟩,
  ⟨3, .N (.bin .lss), [.l 2, .l 0], none, 0⟩] := Eq.trans rfl rfl
theorem er20_15 (φ : Nat → Nat) : r20_15 φ = [
  ⟨0, .N .mv, [.n 4], none, 0⟩,
  ⟨1, .N .mv, [.n 9], none, 0⟩,
  ⟨2, .N (.idx 2), [.l 1, .l 0], none, 3⟩,
  ⟨3, .N (.fadd 0), [.l 0], none, 7⟩,
  ⟨4, .N .load1, [.l 0], none, 15⟩,
  ⟨5, .N .mv, [.n 4], none, 0⟩,
  ⟨6, .N .mv, [.n 9], none, 0⟩,
  ⟨7, .N (.idx 2), [.l 1, .l 0], none, 96⟩,
  ⟨8, .N (.fadd 1), [.l 0], none, 224⟩,
  ⟨9, .N .load1, [.l 0], none, 480⟩,
  ⟨10, .N (.bin .neq), [.l 5, .l 0], none, 1023⟩] := Eq.trans rfl rfl
theorem er20_16 (φ : Nat → Nat) : r20_16 φ = [
  ⟨0, .N .mv, [.n 8], none, 0⟩,
  ⟨1, .N .mv, [.n 4], none, 0⟩,
  ⟨2, .N .mv, [.n 9], none, 0⟩,
  ⟨3, .N (.idx 2), [.l 1, .l 0], none, 6⟩,
  ⟨4, .N (.fadd 0), [.l 0], none, 14⟩,
  ⟨5, .N .load1, [.l 0], none, 30⟩,
  ⟨6, .N .mv, [.n 0], none, 0⟩,
  ⟨7, .N (.bin .mul), [.l 1, .l 0], none, 126⟩,
  ⟨8, .N .mv, [.n 4], none, 0⟩,
  ⟨9, .N .mv, [.n 9], none, 0⟩,
  ⟨10, .N (.idx 2), [.l 1, .l 0], none, 768⟩,
  ⟨11, .N (.fadd 1), [.l 0], none, 1792⟩,
  ⟨12, .N .load1, [.l 0], none, 3840⟩,
  ⟨13, .N (.bin .add), [.l 5, .l 0], none, 8190⟩,
  ⟨14, .N (.idx 1), [.l 13, .l 0], none, 16383⟩,
  ⟨15, .X (.store 1), [.l 0, .c (.bool true)], none, 32767⟩] := Eq.trans rfl rfl
theorem er20_17 (φ : Nat → Nat) : r20_17 φ = [
  ⟨0, .N .mv, [.n 8], none, 0⟩,
  ⟨1, .N .mv, [.n 4], none, 0⟩,
  ⟨2, .N .mv, [.n 9], none, 0⟩,
  ⟨3, .N (.idx 2), [.l 1, .l 0], none, 6⟩,
  ⟨4, .N (.fadd 1), [.l 0], none, 14⟩,
  ⟨5, .N .load1, [.l 0], none, 30⟩,
  ⟨6, .N .mv, [.n 0], none, 0⟩,
  ⟨7, .N (.bin .mul), [.l 1, .l 0], none, 126⟩,
  ⟨8, .N .mv, [.n 4], none, 0⟩,
  ⟨9, .N .mv, [.n 9], none, 0⟩,
  ⟨10, .N (.idx 2), [.l 1, .l 0], none, 768⟩,
  ⟨11, .N (.fadd 0), [.l 0], none, 1792⟩,
  ⟨12, .N .load1, [.l 0], none, 3840⟩,
  ⟨13, .N (.bin .add), [.l 5, .l 0], none, 8190⟩,
  ⟨14, .N (.idx 1), [.l 13, .l 0], none, 16383⟩,
  ⟨15, .X (.store 1), [.l 0, .c (.bool true)], none, 32767⟩] := Eq.trans rfl rfl
theorem er20_18 (φ : Nat → Nat) : r20_18 φ = [
  ⟨0, .N .mv, [.n 9], none, 0⟩,
  ⟨1, .N (.bin .add), [.l 0, .c (.int .i64 1)], none, 0⟩,
  ⟨2, .N .mv, [.l 0], none, 0⟩] := Eq.trans rfl rfl
theorem er20_20 (φ : Nat → Nat) : r20_20 φ = [
  ⟨0, .N .mv, [.c (.int .i64 0)], none, 0⟩] := Eq.trans rfl rfl
theorem er20_21 (φ : Nat → Nat) : r20_21 φ = [
  ⟨0, .N .mv, [.n 10], none, 0⟩,
  ⟨1, .N .mv, [.n 0], none, 0⟩,
  ⟨2, .N (.bin .lss), [.l 1, .l 0], none, 0⟩] := Eq.trans rfl rfl
theorem er20_22 (φ : Nat → Nat) : r20_22 φ = [
  ⟨0, .N .mv, [.c (.int .i64 0)], none, 0⟩] := Eq.trans rfl rfl
theorem er20_23 (φ : Nat → Nat) : r20_23 φ = [
  ⟨0, .N .mv, [.n 11], none, 0⟩,
  ⟨1, .N .mv, [.n 0], none, 0⟩,
  ⟨2, .N (.bin .lss), [.l 1, .l 0], none, 0⟩] := Eq.trans rfl rfl
theorem er20_24 (φ : Nat → Nat) : r20_24 φ = [
  ⟨0, .N (.loadN 2), [.n 6], none, 0⟩,
  ⟨1, .N .mv, [.n 10], none, 0⟩,
  ⟨2, .N .mv, [.n 11], none, 0⟩,
  ⟨4, .N .mv, [.n 8], none, 0⟩,
  ⟨5, .N .mv, [.n 10], none, 0⟩,
  ⟨6, .N .mv, [.n 0], none, 0⟩,
  ⟨7, .N (.bin .mul), [.l 1, .l 0], none, 48⟩,
  ⟨8, .N .mv, [.n 11], none, 0⟩,
  ⟨9, .N (.bin .add), [.l 1, .l 0], none, 240⟩,
  ⟨10, .N (.idx 1), [.l 5, .l 0], none, 504⟩,
  ⟨11, .N .load1, [.l 0], none, 1016⟩,
  ⟨3, .calli true (φ 7), [.l 10, .l 9, .l 8], none, 7⟩,
  ⟨12, .N (.eqB true), [.l 0, .l 1], none, 4095⟩] := Eq.trans rfl rfl
theorem er20_25 (φ : Nat → Nat) : r20_25 φ = [
  ⟨0, .N .mv, [.c (.bool false)], none, 0⟩] := Eq.trans rfl rfl
theorem er20_26 (φ : Nat → Nat) : r20_26 φ = [
  ⟨0, .N .mv, [.n 11], none, 0⟩,
  ⟨1, .N (.bin .add), [.l 0, .c (.int .i64 1)], none, 0⟩,
  ⟨2, .N .mv, [.l 0], none, 0⟩] := Eq.trans rfl rfl
theorem er20_28 (φ : Nat → Nat) : r20_28 φ = [
  ⟨0, .N .mv, [.n 10], none, 0⟩,
  ⟨1, .N (.bin .add), [.l 0, .c (.int .i64 1)], none, 0⟩,
  ⟨2, .N .mv, [.l 0], none, 0⟩] := Eq.trans rfl rfl
theorem er20_30 (φ : Nat → Nat) : r20_30 φ = [
  ⟨0, .N .mv, [.n 3], none, 0⟩,
  ⟨1, .N .mv, [.l 0], none, 0⟩,
  ⟨2, .N (.loadN 2), [.n 6], some (.l 0, true), 0⟩,
  ⟨3, .calli true (φ 7), [.l 0, .c (.int .i64 (-1)), .c (.int .i64 0)], some (.l 1, true), 0⟩,
  ⟨4, .N (.un .not), [.l 0], some (.l 2, true), 0⟩,
  ⟨5, .N .pick, [.l 3, .l 0, .c (.bool false)], none, 0⟩,
  ⟨6, .N .mv, [.l 0], none, 0⟩,
  ⟨7, .N (.loadN 2), [.n 6], some (.l 0, true), 0⟩,
  ⟨8, .N .mv, [.n 0], some (.l 1, true), 0⟩,
  ⟨9, .calli true (φ 7), [.l 1, .c (.int .i64 0), .l 0], some (.l 2, true), 0⟩,
  ⟨10, .N (.un .not), [.l 0], some (.l 3, true), 0⟩,
  ⟨11, .N .pick, [.l 4, .l 0, .c (.bool false)], none, 0⟩,
  ⟨12, .N .mv, [.l 0], none, 0⟩] := Eq.trans rfl rfl
/-- An edge between the two was told. -/
def hasP (es : List Ed) (a b : Int) : Bool := es.any fun e => decide (e.1 ≠ e.2) && (decide (e.1 = a ∧ e.2 = b) || decide (e.1 = b ∧ e.2 = a))
theorem hasP_snoc (es : List Ed) (x : Ed) (a b : Int) : hasP (es ++ [x]) a b = (hasP es a b || (decide (x.1 ≠ x.2) && (decide (x.1 = a ∧ x.2 = b) || decide (x.1 = b ∧ x.2 = a)))) := by simp [hasP]
theorem hasP_set {N : Int} {cs : List Ed} (hR : rightE N (setE cs) = true) (a b : Int) : hasE N (setE cs) a b = hasP cs a b := by
  unfold hasE
  rw [hR, Bool.true_and, Bool.eq_iff_iff]
  simp only [Bool.or_eq_true, decide_eq_true_eq, setE_mem, normsE_mem, hasP, List.any_eq_true, Bool.and_eq_true]
  constructor
  · rintro (⟨y, hy, hne, e⟩ | ⟨y, hy, hne, e⟩) <;> refine ⟨y, hy, hne, ?_⟩ <;> simp only [Prod.mk.injEq] at e <;> omega
  · rintro ⟨y, hy, hne, h⟩
    rcases Int.lt_or_le a b with hab | hab
    · exact .inl ⟨y, hy, hne, Prod.ext (by simp only; omega) (by simp only; omega)⟩
    · exact .inr ⟨y, hy, hne, Prod.ext (by simp only; omega) (by simp only; omega)⟩
theorem idx_inj {M a b x y : Nat} (hb : b < M) (hy : y < M) : a * M + b = x * M + y ↔ a = x ∧ b = y := by
  constructor
  · intro h
    have h1 : (a * M + b) / M = a := by rw [Nat.add_comm, Nat.add_mul_div_right _ _ (by omega), Nat.div_eq_of_lt hb]; omega
    have h2 : (x * M + y) / M = x := by rw [Nat.add_comm, Nat.add_mul_div_right _ _ (by omega), Nat.div_eq_of_lt hy]; omega
    rw [h] at h1
    have : a = x := by omega
    subst this
    exact ⟨rfl, by omega⟩
  · rintro ⟨rfl, rfl⟩; rfl
theorem idx_lt {M a b : Nat} (ha : a < M) (hb : b < M) : a * M + b < M * M := by
  have : (a + 1) * M ≤ M * M := Nat.mul_le_mul_right M ha
  rw [Nat.add_mul] at this; omega
/-- The table, when these edges have been told. -/
def Tab (M : Nat) (es : List Ed) (c : List AV) : Prop := c.length = M * M ∧ ∀ a b : Nat, a < M → b < M → c[a * M + b]? = some (.bool (hasP es a b))
theorem tab_start (M : Nat) : Tab M [] (repA [.bool false] (M * M)) := by
  refine ⟨by rw [repA_len]; simp, fun a b ha hb => ?_⟩
  rw [repA_repl, List.getElem?_replicate, if_pos (idx_lt ha hb)]; rfl
theorem tab_skip {M : Nat} {es : List Ed} {c : List AV} (h : Tab M es c) (x : Ed) (hx : x.1 = x.2) : Tab M (es ++ [x]) c := by
  refine ⟨h.1, fun a b ha hb => ?_⟩
  rw [h.2 a b ha hb, hasP_snoc]; simp [hx]
theorem tab_add {M : Nat} {es : List Ed} {c : List AV} (h : Tab M es c) {x y : Nat} (hx : x < M) (hy : y < M) (hne : x ≠ y) :
    Tab M (es ++ [((x : Int), (y : Int))]) ((c.set (x * M + y) (.bool true)).set (y * M + x) (.bool true)) := by
  refine ⟨by simp [h.1], fun a b ha hb => ?_⟩
  have e1 := idx_inj (a := y) (x := a) hx hb
  have e2 := idx_inj (a := x) (x := a) hy hb
  rw [List.getElem?_set, List.length_set, h.1, if_pos (idx_lt hy hx), List.getElem?_set, h.1, if_pos (idx_lt hx hy), h.2 a b ha hb, hasP_snoc]
  simp only [e1, e2]
  by_cases q1 : y = a ∧ x = b
  · rw [if_pos q1]
    obtain ⟨rfl, rfl⟩ := q1
    have : ¬ (x : Int) = (y : Int) := by omega
    simp [this]
  · rw [if_neg q1]
    by_cases q2 : x = a ∧ y = b
    · rw [if_pos q2]
      obtain ⟨rfl, rfl⟩ := q2
      have : ¬ (x : Int) = (y : Int) := by omega
      simp [this]
    · rw [if_neg q2]
      have k1 : ¬ ((x : Int) = a ∧ (y : Int) = b) := by omega
      have k2 : ¬ ((x : Int) = b ∧ (y : Int) = a) := by omega
      simp [k1, k2]
theorem w_GraphSet (h : Has A (φ 20) (f20 φ)) (hS : PVal A (φ 0) [] (.bool true)) (g : GC A φ) (n : Int) (v : AV) (l : List Ed) (hv : IsE v l) :
    PVal A (φ 20) [.int .i64 n, v] (.bool true) := by
  have hsh := hS.eq
  have hlen := hv.len
  have hcl := hv.closed
  have hr31 : binV .rem (.int .i64 (n % 65536)) (.int .i64 31) = some (.int .i64 ((n % 65536).tmod 31)) := b_rem _ _ _ (by decide)
  have hNb : 0 ≤ (n % 65536).tmod 31 ∧ (n % 65536).tmod 31 < 31 := by
    rw [Int.tmod_eq_emod_of_nonneg (Int.emod_nonneg _ (by decide))]
    exact ⟨Int.emod_nonneg _ (by decide), Int.emod_lt_of_pos _ (by decide)⟩
  refine pval_has h rfl ?_
  simp only [l20_8, l20_19, l20_27, l20_29, b20, f20]
  simp [↓getD_z, ↓getD_s, -List.getD_eq_getElem?_getD, -Int.ofNat_toNat, -getElem?_pos, gz, ↓hid_k, ↓hid_o, ↓hid_q, ↓hid_v, ↓PO_nil, ↓PO_none, ↓PO_grd, ↓PD_nil, ↓PD_none, ↓PD_grd, ↓PDO_N, ↓PDO_X, ↓PDO_call, ↓PDO_calli, ↓PDO_callv, PDX_free, PDX_eq, ↓PStep_N, ↓PStep_X, ↓PStep_call, ↓PStep_calli, PStep_callv, ↓PC_skip, ↓PC_lab, ↓PC_ret, ↓PC_exit, ↓PC_reg, ↓PC_draw, ↓PC_seq, ↓PC_block, ↓PC_loop, ↓PC_scope, ↓PC_cond, ↓thenC_norm, ↓thenC_ret, ↓thenC_exit, ↓blockC_norm, ↓blockC_ret, ↓blockC_exit, ↓loopC_norm, ↓loopC_ret, ↓loopC_exit, ↓endR_ret, ↓endR_norm, resK_none, resK_t, resK_tt, KNO_val, KNO_new, KNO_ite, KNO_map, KXO_some, KXO_ite, KVA_t, KVA_f, KG_skip, KG_tt, KG_ff, KG_tf, KG_ft, KB_true, KB_false, KNOD_val, KNOD_new, KNOD_ite, n_mv, n_pick, n_bin, n_eqB, n_eqN, n_eqS, n_un, n_conv, n_fadd, n_faddV, n_fld1, n_fldN, n_idx, n_idxA, n_idxV, n_idxAV, n_ext, n_lenS, n_lenS0, n_lenV, n_lenT, n_lenA, n_min, n_max, n_build, n_mkfn, n_slc, n_slc0, n_slcV, n_slcA, n_load1, n_loadN, n_load1V, n_loadNV, n_alloc, n_box, n_bsl, n_mksl, n_nilcP, n_nilcV, n_nilcI, n_nilcF, x_store, x_clear0, x_clear, b_add, b_sub, b_mul, b_eql, b_neq, b_lss, b_leq, b_gtr, b_geq, b_and16, unV, ntouch, gather, hide, unhide, evalOpd, applyOuts, int_bne, int_beq, ite_bool, ite_int, one_bool, cells_bool, one_int, cells_int, one_str, cells_str, one_nilp, cells_nilp, one_ptr, cells_ptr, one_nils, cells_nils, one_sl, cells_sl, one_nilf, cells_nilf, one_fn, cells_fn, one_nili, cells_nili, one_mp, cells_mp, one_nilm, cells_nilm, one_iface, cells_iface, one_vs, cells_vs, one_vp, cells_vp, cells_agg, Nat.testBit, setAt_1, setAt_2, closeds_nil, closeds_cons, closed_bool, closed_int, closed_str, closed_nilp, closed_nils, closed_nilm, closed_nilf, closed_nili, closed_agg, closed_tup, closed_vs, closed_vp, closed_iface, closed_fn, closeds_cI, closeds_cE, viewA_closed, viewR_closed, AV.scal, AV.scal0, fillA, repA, part_bool, part_int, part_str, part_nilp, part_ptr, part_nils, part_sl, part_nilm, part_mp, part_nilf, part_fn, part_nili, part_iface, part_agg, part_vs, part_vp, viewA_sl1, vaSl_cells, wrap_0, wrap_1, wrap_2, wrap_m1, set_last, get_last, er20_0, er20_1, er20_2, er20_3, er20_4, er20_5, er20_6, er20_7, er20_9, er20_10, er20_11, er20_12, er20_13, er20_14, er20_15, er20_16, er20_17, er20_18, er20_20, er20_21, er20_22, er20_23, er20_24, er20_25, er20_26, er20_28, er20_30, hsh, hr31]
  generalize (n % 65536).tmod 31 = N at *
  refine pc_loopI (fun m st => ∃ (i : Nat) (o p : AV) (H : Heap), i + m = (anyL N l).length ∧ OwnE true 0 H o ((anyL N l).take i) ∧
      st = ([.int .i64 N, v, .bool false, .bool true, o, .int .i64 i, .un, .un, .un, .un, .un, .un, p, .un, .un, .un, .un, .un, .un], H)) (anyL N l).length ⟨0, _, _, _, by simp, own_nil _ _ _, rfl⟩ ?_
  rintro m st ⟨i, o, p, H, hi, ho, rfl⟩
  by_cases hlt : i < (anyL N l).length
  · have hN0 : 0 < N := by
      rcases Int.lt_or_le 0 N with h | h
      · exact h
      · unfold anyL at hlt; rw [if_neg (by omega)] at hlt; simp at hlt
    have hlt2 : i < l.length ∧ i < 300 := by unfold anyL at hlt; rw [if_pos hN0] at hlt; simp at hlt; omega
    obtain ⟨hl1, hl2⟩ := hlt2
    have hl1' : (i : Int) < l.length := by omega
    have hl2' : (i : Int) < 300 := by omega
    have hg : (anyL N l)[i] = turnE N l[i] := by
      have : anyL N l = (l.take 300).map (turnE N) := by unfold anyL; rw [if_pos hN0]
      simp only [this, List.getElem_map, List.getElem_take]
    obtain ⟨i1, g1', g2', le1, t1⟩ := hv.at hl1
    have hw1 := wrap1 hl2 (by omega)
    have r1 : binV .rem (.int .i64 (l[i].1 % 65536)) (.int .i64 N) = some (.int .i64 (turnE N l[i]).1) := b_rem _ _ _ (by omega)
    have r2 : binV .rem (.int .i64 (l[i].2 % 65536)) (.int .i64 N) = some (.int .i64 (turnE N l[i]).2) := b_rem _ _ _ (by omega)
    obtain ⟨o1, H1, x1, x2, x3, _, _, _⟩ := OwnE.app1 ho (turnE N l[i]).1 (turnE N l[i]).2 (Nat.zero_le _) (by simp; omega)
    simp [↓getD_z, ↓getD_s, -List.getD_eq_getElem?_getD, -Int.ofNat_toNat, -getElem?_pos, gz, ↓hid_k, ↓hid_o, ↓hid_q, ↓hid_v, ↓PO_nil, ↓PO_none, ↓PO_grd, ↓PD_nil, ↓PD_none, ↓PD_grd, ↓PDO_N, ↓PDO_X, ↓PDO_call, ↓PDO_calli, ↓PDO_callv, PDX_free, PDX_eq, ↓PStep_N, ↓PStep_X, ↓PStep_call, ↓PStep_calli, PStep_callv, ↓PC_skip, ↓PC_lab, ↓PC_ret, ↓PC_exit, ↓PC_reg, ↓PC_draw, ↓PC_seq, ↓PC_block, ↓PC_loop, ↓PC_scope, ↓PC_cond, ↓thenC_norm, ↓thenC_ret, ↓thenC_exit, ↓blockC_norm, ↓blockC_ret, ↓blockC_exit, ↓loopC_norm, ↓loopC_ret, ↓loopC_exit, ↓endR_ret, ↓endR_norm, resK_none, resK_t, resK_tt, KNO_val, KNO_new, KNO_ite, KNO_map, KXO_some, KXO_ite, KVA_t, KVA_f, KG_skip, KG_tt, KG_ff, KG_tf, KG_ft, KB_true, KB_false, KNOD_val, KNOD_new, KNOD_ite, n_mv, n_pick, n_bin, n_eqB, n_eqN, n_eqS, n_un, n_conv, n_fadd, n_faddV, n_fld1, n_fldN, n_idx, n_idxA, n_idxV, n_idxAV, n_ext, n_lenS, n_lenS0, n_lenV, n_lenT, n_lenA, n_min, n_max, n_build, n_mkfn, n_slc, n_slc0, n_slcV, n_slcA, n_load1, n_loadN, n_load1V, n_loadNV, n_alloc, n_box, n_bsl, n_mksl, n_nilcP, n_nilcV, n_nilcI, n_nilcF, x_store, x_clear0, x_clear, b_add, b_sub, b_mul, b_eql, b_neq, b_lss, b_leq, b_gtr, b_geq, b_and16, unV, ntouch, gather, hide, unhide, evalOpd, applyOuts, int_bne, int_beq, ite_bool, ite_int, one_bool, cells_bool, one_int, cells_int, one_str, cells_str, one_nilp, cells_nilp, one_ptr, cells_ptr, one_nils, cells_nils, one_sl, cells_sl, one_nilf, cells_nilf, one_fn, cells_fn, one_nili, cells_nili, one_mp, cells_mp, one_nilm, cells_nilm, one_iface, cells_iface, one_vs, cells_vs, one_vp, cells_vp, cells_agg, Nat.testBit, setAt_1, setAt_2, closeds_nil, closeds_cons, closed_bool, closed_int, closed_str, closed_nilp, closed_nils, closed_nilm, closed_nilf, closed_nili, closed_agg, closed_tup, closed_vs, closed_vp, closed_iface, closed_fn, closeds_cI, closeds_cE, viewA_closed, viewR_closed, AV.scal, AV.scal0, fillA, repA, part_bool, part_int, part_str, part_nilp, part_ptr, part_nils, part_sl, part_nilm, part_mp, part_nilf, part_fn, part_nili, part_iface, part_agg, part_vs, part_vp, viewA_sl1, vaSl_cells, wrap_0, wrap_1, wrap_2, wrap_m1, set_last, get_last, er20_0, er20_1, er20_2, er20_3, er20_4, er20_5, er20_6, er20_7, er20_9, er20_10, er20_11, er20_12, er20_13, er20_14, er20_15, er20_16, er20_17, er20_18, er20_20, er20_21, er20_22, er20_23, er20_24, er20_25, er20_26, er20_28, er20_30, hlen, hl1', hl2', hl1, hl2, hN0, i1, g1', g2', r1, r2, x1, hw1]
    refine next_mk (m - 1) (by omega) ⟨i + 1, o1, _, H1, by omega, ?_, rfl⟩
    rw [List.take_succ_eq_append_getElem hlt, hg]; exact x2
  · have hm : (anyL N l).take i = anyL N l := List.take_of_length_le (by omega)
    rw [hm] at ho
    have hgu : ¬ ((i < l.length ∧ i < 300) ∧ 0 < N) := by
      rintro ⟨⟨h1, h2⟩, h3⟩
      apply hlt
      unfold anyL; rw [if_pos h3]; simp; omega
    have hok := anyL_ok N l
    have hal := anyL_len N l
    have hle1 := setE_le (anyL N l)
    have hend : ∀ x ∈ anyL N l, 0 ≤ x.1 ∧ x.1 < N ∧ 0 ≤ x.2 ∧ x.2 < N := by
      intro x hx
      have := List.all_eq_true.1 hok x hx
      simp only [okEnds, Bool.and_eq_true, decide_eq_true_eq] at this
      omega
    generalize anyL N l = cs at *
    have k1 : normalE N cs = (N, setE cs, 0) := normalE_ok (by omega) (by omega) hok (by omega)
    have hRt : rightE N (setE cs) = true := by
      have := @normalE_right N cs
      rw [k1] at this
      exact this rfl
    have n1 := (Own.vw ho).r2 (closeds_cE cs) (.int .i64 N) rfl
    obtain ⟨f1, _, _⟩ := (Own.vw ho).frz
    have hbl : ∀ b, blkOf o = some b → b < (frzOf H o).length := fun b hb => by rw [frzOf_len]; exact (Own.blk ho hb).2
    generalize frzOf H o = F at *
    have iS := isE_r (setE cs)
    have i1 : IsE (rv true cs.length 2 (cellsE cs)) cs := is_rv (cellsE_length _) (closeds_cE _)
    have c1 := (g.normal N _ cs i1 (by omega)).eq
    simp only [nR, k1] at c1
    have cH := fun a b : Int => (g.has N a b _ (setE cs) iS).eq
    have hNm : hasE N (setE cs) (-1) 0 = false := by
      rw [hasE_min hRt, decide_eq_false_iff_not]
      intro hm; have := right_ends hRt _ hm; simp at this; omega
    have hNn : hasE N (setE cs) 0 N = false := by
      rw [hasE_min hRt, decide_eq_false_iff_not]
      intro hm; have := right_ends hRt _ hm; simp at this; omega
    have cH1 := cH (-1) 0
    have cH2 := cH 0 N
    rw [hNm] at cH1; rw [hNn] at cH2
    generalize hUe : rE (setE cs) = U at *
    generalize hu1 : rv true cs.length 2 (cellsE cs) = u1 at *
    obtain ⟨M, rfl⟩ : ∃ M : Nat, N = (M : Int) := ⟨N.toNat, by omega⟩
    have hMM : (M : Int) * (M : Int) = ((M * M : Nat) : Int) := by simp
    have hMb : M * M ≤ 900 := Nat.le_trans (Nat.mul_le_mul (by omega : M ≤ 30) (by omega : M ≤ 30)) (by decide)
    have hmw : IntKind.i64.wrap ((M : Int) * (M : Int)) = ((M * M : Nat) : Int) := by rw [hMM]; exact wrap_in (by omega) (by omega)
    have hmk : ∀ rd, nstep (.mksl [.bool false] 1 1) [.int .i64 ((M * M : Nat) : Int), .int .i64 ((M * M : Nat) : Int)] rd = some (.new (.cells 0 false (repA [.bool false] (M * M))) fun b => .sl b 0 0 (M * M) 1 (M * M) true) := by
      intro rd
      rw [n_mksl, if_pos ⟨by omega, by omega, by omega, by omega⟩, Int.toNat_natCast]
    have hx : ∀ Q' : Ex → St → Prop, Q' (.exit 0) ([.int .i64 M, v, .bool false, .bool true, o, .int .i64 i, .un, .un, .un, .un, .un, .un, .bool false, .un, .un, .un, .un, .un, .un], H) →
        PC A (.seq (.reg false (r20_5 φ) [(12, 0)]) (.cond (.n 12) .skip (.exit 0))) ([.int .i64 M, v, .bool false, .bool true, o, .int .i64 i, .un, .un, .un, .un, .un, .un, p, .un, .un, .un, .un, .un, .un], H) Q' := by
      intro Q' hq
      by_cases q1 : i < l.length
      · by_cases q2 : (i : Int) < 300
        · have q3 : ¬ 0 < M := fun h => hgu ⟨⟨q1, by omega⟩, by omega⟩
          simp [↓getD_z, ↓getD_s, -List.getD_eq_getElem?_getD, -Int.ofNat_toNat, -getElem?_pos, gz, ↓hid_k, ↓hid_o, ↓hid_q, ↓hid_v, ↓PO_nil, ↓PO_none, ↓PO_grd, ↓PD_nil, ↓PD_none, ↓PD_grd, ↓PDO_N, ↓PDO_X, ↓PDO_call, ↓PDO_calli, ↓PDO_callv, PDX_free, PDX_eq, ↓PStep_N, ↓PStep_X, ↓PStep_call, ↓PStep_calli, PStep_callv, ↓PC_skip, ↓PC_lab, ↓PC_ret, ↓PC_exit, ↓PC_reg, ↓PC_draw, ↓PC_seq, ↓PC_block, ↓PC_loop, ↓PC_scope, ↓PC_cond, ↓thenC_norm, ↓thenC_ret, ↓thenC_exit, ↓blockC_norm, ↓blockC_ret, ↓blockC_exit, ↓loopC_norm, ↓loopC_ret, ↓loopC_exit, ↓endR_ret, ↓endR_norm, resK_none, resK_t, resK_tt, KNO_val, KNO_new, KNO_ite, KNO_map, KXO_some, KXO_ite, KVA_t, KVA_f, KG_skip, KG_tt, KG_ff, KG_tf, KG_ft, KB_true, KB_false, KNOD_val, KNOD_new, KNOD_ite, n_mv, n_pick, n_bin, n_eqB, n_eqN, n_eqS, n_un, n_conv, n_fadd, n_faddV, n_fld1, n_fldN, n_idx, n_idxA, n_idxV, n_idxAV, n_ext, n_lenS, n_lenS0, n_lenV, n_lenT, n_lenA, n_min, n_max, n_build, n_mkfn, n_slc, n_slc0, n_slcV, n_slcA, n_load1, n_loadN, n_load1V, n_loadNV, n_alloc, n_box, n_bsl, n_mksl, n_nilcP, n_nilcV, n_nilcI, n_nilcF, x_store, x_clear0, x_clear, b_add, b_sub, b_mul, b_eql, b_neq, b_lss, b_leq, b_gtr, b_geq, b_and16, unV, ntouch, gather, hide, unhide, evalOpd, applyOuts, int_bne, int_beq, ite_bool, ite_int, one_bool, cells_bool, one_int, cells_int, one_str, cells_str, one_nilp, cells_nilp, one_ptr, cells_ptr, one_nils, cells_nils, one_sl, cells_sl, one_nilf, cells_nilf, one_fn, cells_fn, one_nili, cells_nili, one_mp, cells_mp, one_nilm, cells_nilm, one_iface, cells_iface, one_vs, cells_vs, one_vp, cells_vp, cells_agg, Nat.testBit, setAt_1, setAt_2, closeds_nil, closeds_cons, closed_bool, closed_int, closed_str, closed_nilp, closed_nils, closed_nilm, closed_nilf, closed_nili, closed_agg, closed_tup, closed_vs, closed_vp, closed_iface, closed_fn, closeds_cI, closeds_cE, viewA_closed, viewR_closed, AV.scal, AV.scal0, fillA, repA, part_bool, part_int, part_str, part_nilp, part_ptr, part_nils, part_sl, part_nilm, part_mp, part_nilf, part_fn, part_nili, part_iface, part_agg, part_vs, part_vp, viewA_sl1, vaSl_cells, wrap_0, wrap_1, wrap_2, wrap_m1, set_last, get_last, er20_0, er20_1, er20_2, er20_3, er20_4, er20_5, er20_6, er20_7, er20_9, er20_10, er20_11, er20_12, er20_13, er20_14, er20_15, er20_16, er20_17, er20_18, er20_20, er20_21, er20_22, er20_23, er20_24, er20_25, er20_26, er20_28, er20_30, hlen, q1, q2, q3, hq]
        · simp [↓getD_z, ↓getD_s, -List.getD_eq_getElem?_getD, -Int.ofNat_toNat, -getElem?_pos, gz, ↓hid_k, ↓hid_o, ↓hid_q, ↓hid_v, ↓PO_nil, ↓PO_none, ↓PO_grd, ↓PD_nil, ↓PD_none, ↓PD_grd, ↓PDO_N, ↓PDO_X, ↓PDO_call, ↓PDO_calli, ↓PDO_callv, PDX_free, PDX_eq, ↓PStep_N, ↓PStep_X, ↓PStep_call, ↓PStep_calli, PStep_callv, ↓PC_skip, ↓PC_lab, ↓PC_ret, ↓PC_exit, ↓PC_reg, ↓PC_draw, ↓PC_seq, ↓PC_block, ↓PC_loop, ↓PC_scope, ↓PC_cond, ↓thenC_norm, ↓thenC_ret, ↓thenC_exit, ↓blockC_norm, ↓blockC_ret, ↓blockC_exit, ↓loopC_norm, ↓loopC_ret, ↓loopC_exit, ↓endR_ret, ↓endR_norm, resK_none, resK_t, resK_tt, KNO_val, KNO_new, KNO_ite, KNO_map, KXO_some, KXO_ite, KVA_t, KVA_f, KG_skip, KG_tt, KG_ff, KG_tf, KG_ft, KB_true, KB_false, KNOD_val, KNOD_new, KNOD_ite, n_mv, n_pick, n_bin, n_eqB, n_eqN, n_eqS, n_un, n_conv, n_fadd, n_faddV, n_fld1, n_fldN, n_idx, n_idxA, n_idxV, n_idxAV, n_ext, n_lenS, n_lenS0, n_lenV, n_lenT, n_lenA, n_min, n_max, n_build, n_mkfn, n_slc, n_slc0, n_slcV, n_slcA, n_load1, n_loadN, n_load1V, n_loadNV, n_alloc, n_box, n_bsl, n_mksl, n_nilcP, n_nilcV, n_nilcI, n_nilcF, x_store, x_clear0, x_clear, b_add, b_sub, b_mul, b_eql, b_neq, b_lss, b_leq, b_gtr, b_geq, b_and16, unV, ntouch, gather, hide, unhide, evalOpd, applyOuts, int_bne, int_beq, ite_bool, ite_int, one_bool, cells_bool, one_int, cells_int, one_str, cells_str, one_nilp, cells_nilp, one_ptr, cells_ptr, one_nils, cells_nils, one_sl, cells_sl, one_nilf, cells_nilf, one_fn, cells_fn, one_nili, cells_nili, one_mp, cells_mp, one_nilm, cells_nilm, one_iface, cells_iface, one_vs, cells_vs, one_vp, cells_vp, cells_agg, Nat.testBit, setAt_1, setAt_2, closeds_nil, closeds_cons, closed_bool, closed_int, closed_str, closed_nilp, closed_nils, closed_nilm, closed_nilf, closed_nili, closed_agg, closed_tup, closed_vs, closed_vp, closed_iface, closed_fn, closeds_cI, closeds_cE, viewA_closed, viewR_closed, AV.scal, AV.scal0, fillA, repA, part_bool, part_int, part_str, part_nilp, part_ptr, part_nils, part_sl, part_nilm, part_mp, part_nilf, part_fn, part_nili, part_iface, part_agg, part_vs, part_vp, viewA_sl1, vaSl_cells, wrap_0, wrap_1, wrap_2, wrap_m1, set_last, get_last, er20_0, er20_1, er20_2, er20_3, er20_4, er20_5, er20_6, er20_7, er20_9, er20_10, er20_11, er20_12, er20_13, er20_14, er20_15, er20_16, er20_17, er20_18, er20_20, er20_21, er20_22, er20_23, er20_24, er20_25, er20_26, er20_28, er20_30, hlen, q1, q2, hq]
      · simp [↓getD_z, ↓getD_s, -List.getD_eq_getElem?_getD, -Int.ofNat_toNat, -getElem?_pos, gz, ↓hid_k, ↓hid_o, ↓hid_q, ↓hid_v, ↓PO_nil, ↓PO_none, ↓PO_grd, ↓PD_nil, ↓PD_none, ↓PD_grd, ↓PDO_N, ↓PDO_X, ↓PDO_call, ↓PDO_calli, ↓PDO_callv, PDX_free, PDX_eq, ↓PStep_N, ↓PStep_X, ↓PStep_call, ↓PStep_calli, PStep_callv, ↓PC_skip, ↓PC_lab, ↓PC_ret, ↓PC_exit, ↓PC_reg, ↓PC_draw, ↓PC_seq, ↓PC_block, ↓PC_loop, ↓PC_scope, ↓PC_cond, ↓thenC_norm, ↓thenC_ret, ↓thenC_exit, ↓blockC_norm, ↓blockC_ret, ↓blockC_exit, ↓loopC_norm, ↓loopC_ret, ↓loopC_exit, ↓endR_ret, ↓endR_norm, resK_none, resK_t, resK_tt, KNO_val, KNO_new, KNO_ite, KNO_map, KXO_some, KXO_ite, KVA_t, KVA_f, KG_skip, KG_tt, KG_ff, KG_tf, KG_ft, KB_true, KB_false, KNOD_val, KNOD_new, KNOD_ite, n_mv, n_pick, n_bin, n_eqB, n_eqN, n_eqS, n_un, n_conv, n_fadd, n_faddV, n_fld1, n_fldN, n_idx, n_idxA, n_idxV, n_idxAV, n_ext, n_lenS, n_lenS0, n_lenV, n_lenT, n_lenA, n_min, n_max, n_build, n_mkfn, n_slc, n_slc0, n_slcV, n_slcA, n_load1, n_loadN, n_load1V, n_loadNV, n_alloc, n_box, n_bsl, n_mksl, n_nilcP, n_nilcV, n_nilcI, n_nilcF, x_store, x_clear0, x_clear, b_add, b_sub, b_mul, b_eql, b_neq, b_lss, b_leq, b_gtr, b_geq, b_and16, unV, ntouch, gather, hide, unhide, evalOpd, applyOuts, int_bne, int_beq, ite_bool, ite_int, one_bool, cells_bool, one_int, cells_int, one_str, cells_str, one_nilp, cells_nilp, one_ptr, cells_ptr, one_nils, cells_nils, one_sl, cells_sl, one_nilf, cells_nilf, one_fn, cells_fn, one_nili, cells_nili, one_mp, cells_mp, one_nilm, cells_nilm, one_iface, cells_iface, one_vs, cells_vs, one_vp, cells_vp, cells_agg, Nat.testBit, setAt_1, setAt_2, closeds_nil, closeds_cons, closed_bool, closed_int, closed_str, closed_nilp, closed_nils, closed_nilm, closed_nilf, closed_nili, closed_agg, closed_tup, closed_vs, closed_vp, closed_iface, closed_fn, closeds_cI, closeds_cE, viewA_closed, viewR_closed, AV.scal, AV.scal0, fillA, repA, part_bool, part_int, part_str, part_nilp, part_ptr, part_nils, part_sl, part_nilm, part_mp, part_nilf, part_fn, part_nili, part_iface, part_agg, part_vs, part_vp, viewA_sl1, vaSl_cells, wrap_0, wrap_1, wrap_2, wrap_m1, set_last, get_last, er20_0, er20_1, er20_2, er20_3, er20_4, er20_5, er20_6, er20_7, er20_9, er20_10, er20_11, er20_12, er20_13, er20_14, er20_15, er20_16, er20_17, er20_18, er20_20, er20_21, er20_22, er20_23, er20_24, er20_25, er20_26, er20_28, er20_30, hlen, q1, hq]
    rw [PC_seq]
    refine hx _ ?_
    simp [↓getD_z, ↓getD_s, -List.getD_eq_getElem?_getD, -Int.ofNat_toNat, -getElem?_pos, gz, ↓hid_k, ↓hid_o, ↓hid_q, ↓hid_v, ↓PO_nil, ↓PO_none, ↓PO_grd, ↓PD_nil, ↓PD_none, ↓PD_grd, ↓PDO_N, ↓PDO_X, ↓PDO_call, ↓PDO_calli, ↓PDO_callv, PDX_free, PDX_eq, ↓PStep_N, ↓PStep_X, ↓PStep_call, ↓PStep_calli, PStep_callv, ↓PC_skip, ↓PC_lab, ↓PC_ret, ↓PC_exit, ↓PC_reg, ↓PC_draw, ↓PC_seq, ↓PC_block, ↓PC_loop, ↓PC_scope, ↓PC_cond, ↓thenC_norm, ↓thenC_ret, ↓thenC_exit, ↓blockC_norm, ↓blockC_ret, ↓blockC_exit, ↓loopC_norm, ↓loopC_ret, ↓loopC_exit, ↓endR_ret, ↓endR_norm, resK_none, resK_t, resK_tt, KNO_val, KNO_new, KNO_ite, KNO_map, KXO_some, KXO_ite, KVA_t, KVA_f, KG_skip, KG_tt, KG_ff, KG_tf, KG_ft, KB_true, KB_false, KNOD_val, KNOD_new, KNOD_ite, n_mv, n_pick, n_bin, n_eqB, n_eqN, n_eqS, n_un, n_conv, n_fadd, n_faddV, n_fld1, n_fldN, n_idx, n_idxA, n_idxV, n_idxAV, n_ext, n_lenS, n_lenS0, n_lenV, n_lenT, n_lenA, n_min, n_max, n_build, n_mkfn, n_slc, n_slc0, n_slcV, n_slcA, n_load1, n_loadN, n_load1V, n_loadNV, n_alloc, n_box, n_bsl, n_mksl, n_nilcP, n_nilcV, n_nilcI, n_nilcF, x_store, x_clear0, x_clear, b_add, b_sub, b_mul, b_eql, b_neq, b_lss, b_leq, b_gtr, b_geq, b_and16, unV, ntouch, gather, hide, unhide, evalOpd, applyOuts, int_bne, int_beq, ite_bool, ite_int, one_bool, cells_bool, one_int, cells_int, one_str, cells_str, one_nilp, cells_nilp, one_ptr, cells_ptr, one_nils, cells_nils, one_sl, cells_sl, one_nilf, cells_nilf, one_fn, cells_fn, one_nili, cells_nili, one_mp, cells_mp, one_nilm, cells_nilm, one_iface, cells_iface, one_vs, cells_vs, one_vp, cells_vp, cells_agg, Nat.testBit, setAt_1, setAt_2, closeds_nil, closeds_cons, closed_bool, closed_int, closed_str, closed_nilp, closed_nils, closed_nilm, closed_nilf, closed_nili, closed_agg, closed_tup, closed_vs, closed_vp, closed_iface, closed_fn, closeds_cI, closeds_cE, viewA_closed, viewR_closed, AV.scal, AV.scal0, fillA, repA, part_bool, part_int, part_str, part_nilp, part_ptr, part_nils, part_sl, part_nilm, part_mp, part_nilf, part_fn, part_nili, part_iface, part_agg, part_vs, part_vp, viewA_sl1, vaSl_cells, wrap_0, wrap_1, wrap_2, wrap_m1, set_last, get_last, er20_0, er20_1, er20_2, er20_3, er20_4, er20_5, er20_6, er20_7, er20_9, er20_10, er20_11, er20_12, er20_13, er20_14, er20_15, er20_16, er20_17, er20_18, er20_20, er20_21, er20_22, er20_23, er20_24, er20_25, er20_26, er20_28, er20_30, n1, c1, hmw, hmk, iS.closed, iS.one, iS.cells, get_at, get_at0, set_at, set_at0]
    refine ⟨by rw [hMM]; omega, ?_⟩
    rw [show ((M : Int) * (M : Int)).toNat = M * M by rw [hMM]; exact Int.toNat_natCast _]
    have hP0 : Own false (F.length + 1) (F ++ [.cells 0 false [.int .i64 M, U], .cells 0 false (repA [.bool false] (M * M))]) (.sl (F.length + 1) 0 0 (M * M) 1 (M * M) true) 1 (M * M) (repA [.bool false] (M * M)) := by
      by_cases hz : M * M = 0
      · rw [hz]; exact .inl ⟨rfl, rfl, _, _, _, rfl⟩
      · exact .inr ⟨by omega, F.length + 1, 0, true, rfl, Nat.le_refl _, by rw [repA_len]; simp, get_at F _ 1⟩
    have hG0 : (F ++ [.cells 0 false [.int .i64 M, U], .cells 0 false (repA [.bool false] (M * M))])[F.length]? = some (.cells 0 false [.int .i64 M, U]) := get_at0 F _
    have hV0 : Vw true (F ++ [.cells 0 false [.int .i64 M, U], .cells 0 false (repA [.bool false] (M * M))]) o 2 cs.length (cellsE cs) := f1.keep fun b hb => List.getElem?_append_left (hbl b hb)
    generalize AV.sl (F.length + 1) 0 0 (M * M) 1 (M * M) true = PV at *
    generalize F ++ [.cells 0 false [.int .i64 M, U], .cells 0 false (repA [.bool false] (M * M))] = H0 at *
    refine pc_loopI (fun m st => ∃ (j : Nat) (c : List AV) (H' : Heap) (p14 p15 : AV), j + m = cs.length ∧ Tab M (cs.take j) c ∧ Own false (F.length + 1) H' PV 1 (M * M) c ∧ H'[F.length]? = some (.cells 0 false [.int .i64 M, U]) ∧ Vw true H' o 2 cs.length (cellsE cs) ∧
      st = ([.int .i64 M, v, .bool false, .bool true, o, .int .i64 i, .ptr F.length 0 0, .int .i64 0, PV, .int .i64 j, .un, .un, .bool false, .bool false, p14, p15, .un, .un, .un], H')) cs.length ⟨0, _, _, _, _, by simp, tab_start M, hP0, hG0, hV0, rfl⟩ ?_
    rintro m2 st2 ⟨j, c, H', p14, p15, hj, hT, hP, hG, hV, rfl⟩
    have hVl := hV.len
    by_cases hjl : j < cs.length
    · have hjl' : (j : Int) < cs.length := by omega
      obtain ⟨ob, og, oro, o1, o2, o3⟩ := hV.at hjl
      obtain ⟨z1, z2⟩ := cE_get cs j hjl
      obtain ⟨b1, b2, b3, b4⟩ := hend _ (List.getElem_mem hjl)
      have hjw := wrap1 hjl (by omega)
      have hts : cs.take (j + 1) = cs.take j ++ [cs[j]] := List.take_succ_eq_append_getElem hjl
      obtain ⟨x, hx1⟩ : ∃ x : Nat, cs[j].1 = (x : Int) := ⟨cs[j].1.toNat, by omega⟩
      obtain ⟨y, hy1⟩ : ∃ y : Nat, cs[j].2 = (y : Int) := ⟨cs[j].2.toNat, by omega⟩
      have hcj : cs[j] = ((x : Int), (y : Int)) := Prod.ext hx1 hy1
      rw [hx1] at z1 b2; rw [hy1] at z2 b4
      rw [hcj] at hts
      have hzl : j * 2 + 1 < (cellsE cs).length := by rw [cellsE_length]; omega
      have z1' := (List.getElem?_eq_some_iff.1 z1).2
      have z2' := (List.getElem?_eq_some_iff.1 z2).2
      by_cases hxy : x = y
      · subst hxy
        simp [↓getD_z, ↓getD_s, -List.getD_eq_getElem?_getD, -Int.ofNat_toNat, -getElem?_pos, gz, ↓hid_k, ↓hid_o, ↓hid_q, ↓hid_v, ↓PO_nil, ↓PO_none, ↓PO_grd, ↓PD_nil, ↓PD_none, ↓PD_grd, ↓PDO_N, ↓PDO_X, ↓PDO_call, ↓PDO_calli, ↓PDO_callv, PDX_free, PDX_eq, ↓PStep_N, ↓PStep_X, ↓PStep_call, ↓PStep_calli, PStep_callv, ↓PC_skip, ↓PC_lab, ↓PC_ret, ↓PC_exit, ↓PC_reg, ↓PC_draw, ↓PC_seq, ↓PC_block, ↓PC_loop, ↓PC_scope, ↓PC_cond, ↓thenC_norm, ↓thenC_ret, ↓thenC_exit, ↓blockC_norm, ↓blockC_ret, ↓blockC_exit, ↓loopC_norm, ↓loopC_ret, ↓loopC_exit, ↓endR_ret, ↓endR_norm, resK_none, resK_t, resK_tt, KNO_val, KNO_new, KNO_ite, KNO_map, KXO_some, KXO_ite, KVA_t, KVA_f, KG_skip, KG_tt, KG_ff, KG_tf, KG_ft, KB_true, KB_false, KNOD_val, KNOD_new, KNOD_ite, n_mv, n_pick, n_bin, n_eqB, n_eqN, n_eqS, n_un, n_conv, n_fadd, n_faddV, n_fld1, n_fldN, n_idx, n_idxA, n_idxV, n_idxAV, n_ext, n_lenS, n_lenS0, n_lenV, n_lenT, n_lenA, n_min, n_max, n_build, n_mkfn, n_slc, n_slc0, n_slcV, n_slcA, n_load1, n_loadN, n_load1V, n_loadNV, n_alloc, n_box, n_bsl, n_mksl, n_nilcP, n_nilcV, n_nilcI, n_nilcF, x_store, x_clear0, x_clear, b_add, b_sub, b_mul, b_eql, b_neq, b_lss, b_leq, b_gtr, b_geq, b_and16, unV, ntouch, gather, hide, unhide, evalOpd, applyOuts, int_bne, int_beq, ite_bool, ite_int, one_bool, cells_bool, one_int, cells_int, one_str, cells_str, one_nilp, cells_nilp, one_ptr, cells_ptr, one_nils, cells_nils, one_sl, cells_sl, one_nilf, cells_nilf, one_fn, cells_fn, one_nili, cells_nili, one_mp, cells_mp, one_nilm, cells_nilm, one_iface, cells_iface, one_vs, cells_vs, one_vp, cells_vp, cells_agg, Nat.testBit, setAt_1, setAt_2, closeds_nil, closeds_cons, closed_bool, closed_int, closed_str, closed_nilp, closed_nils, closed_nilm, closed_nilf, closed_nili, closed_agg, closed_tup, closed_vs, closed_vp, closed_iface, closed_fn, closeds_cI, closeds_cE, viewA_closed, viewR_closed, AV.scal, AV.scal0, fillA, repA, part_bool, part_int, part_str, part_nilp, part_ptr, part_nils, part_sl, part_nilm, part_mp, part_nilf, part_fn, part_nili, part_iface, part_agg, part_vs, part_vp, viewA_sl1, vaSl_cells, wrap_0, wrap_1, wrap_2, wrap_m1, set_last, get_last, er20_0, er20_1, er20_2, er20_3, er20_4, er20_5, er20_6, er20_7, er20_9, er20_10, er20_11, er20_12, er20_13, er20_14, er20_15, er20_16, er20_17, er20_18, er20_20, er20_21, er20_22, er20_23, er20_24, er20_25, er20_26, er20_28, er20_30, hVl, hjl', hjl, o1, o2, z1, z2, hjw]
        exact next_mk (m2 - 1) (by omega) ⟨j + 1, c, H', _, _, by omega, by rw [hts]; exact tab_skip hT _ rfl, hP, hG, hV, rfl⟩
      · have hxM : x < M := by omega
        have hyM : y < M := by omega
        have l1 := idx_lt hxM hyM
        have l2 := idx_lt hyM hxM
        have hxi : ¬ (x : Int) = (y : Int) := by omega
        have m1 : (x : Int) * (M : Int) = ((x * M : Nat) : Int) := by simp
        have m2' : (y : Int) * (M : Int) = ((y * M : Nat) : Int) := by simp
        have w1 : IntKind.i64.wrap ((x : Int) * (M : Int)) = (x : Int) * (M : Int) := by rw [m1]; exact wrap_in (by omega) (by omega)
        have w2 : IntKind.i64.wrap ((x : Int) * (M : Int) + (y : Int)) = (x : Int) * (M : Int) + (y : Int) := by rw [m1]; exact wrap_in (by omega) (by omega)
        have w3 : IntKind.i64.wrap ((y : Int) * (M : Int)) = (y : Int) * (M : Int) := by rw [m2']; exact wrap_in (by omega) (by omega)
        have w4 : IntKind.i64.wrap ((y : Int) * (M : Int) + (x : Int)) = (y : Int) * (M : Int) + (x : Int) := by rw [m2']; exact wrap_in (by omega) (by omega)
        obtain ⟨pb, pg, a1, a2, a3, a4, a5⟩ := Own.at hP l1
        have hcl := hT.1
        have hP2 := a5 (c.set (x * M + y) (.bool true)) (by simp)
        obtain ⟨pb2, pg2, b1', b2', b3', b4', b5'⟩ := Own.at hP2 l2
        obtain rfl : pb = pb2 := by rw [a3] at b3'; exact Option.some.inj b3'
        have hlt2 := lt_of_get a2
        obtain rfl : pg = pg2 := by
          rw [List.getElem?_set_self hlt2] at b2'
          cases b2'; rfl
        have d1 : ∀ (k : IntKind) rd, nstep (.idx 1) [PV, .int k ((x : Int) * (M : Int) + (y : Int))] rd = some (.val (.ptr pb pg (x * M + y))) := fun k rd => by
          have := a1 k rd; rw [Nat.mul_one] at this; rw [← this]; simp
        have d2 : ∀ (k : IntKind) rd, nstep (.idx 1) [PV, .int k ((y : Int) * (M : Int) + (x : Int))] rd = some (.val (.ptr pb pg (y * M + x))) := fun k rd => by
          have := b1' k rd; rw [Nat.mul_one] at this; rw [← this]; simp
        have s1 := setAt_one (c := c) (o := x * M + y) (.bool true) (by omega)
        have s2 := setAt_one (c := c.set (x * M + y) (.bool true)) (o := y * M + x) (.bool true) (by simp; omega)
        have e1 : x * M + y + 1 ≤ c.length := by omega
        have e2 : y * M + x + 1 ≤ c.length := by omega
        have hpo : pb ≠ ob := by
          have := hbl ob o3; omega
        have o2' : (H'.set pb (.cells pg false (c.set (x * M + y) (.bool true))))[ob]? = some (.cells og oro (cellsE cs)) := by rw [List.getElem?_set_ne hpo]; exact o2
        have a2' : (H'.set pb (.cells pg false (c.set (x * M + y) (.bool true))))[pb]? = some (.cells pg false (c.set (x * M + y) (.bool true))) := List.getElem?_set_self hlt2
        simp [↓getD_z, ↓getD_s, -List.getD_eq_getElem?_getD, -Int.ofNat_toNat, -getElem?_pos, gz, ↓hid_k, ↓hid_o, ↓hid_q, ↓hid_v, ↓PO_nil, ↓PO_none, ↓PO_grd, ↓PD_nil, ↓PD_none, ↓PD_grd, ↓PDO_N, ↓PDO_X, ↓PDO_call, ↓PDO_calli, ↓PDO_callv, PDX_free, PDX_eq, ↓PStep_N, ↓PStep_X, ↓PStep_call, ↓PStep_calli, PStep_callv, ↓PC_skip, ↓PC_lab, ↓PC_ret, ↓PC_exit, ↓PC_reg, ↓PC_draw, ↓PC_seq, ↓PC_block, ↓PC_loop, ↓PC_scope, ↓PC_cond, ↓thenC_norm, ↓thenC_ret, ↓thenC_exit, ↓blockC_norm, ↓blockC_ret, ↓blockC_exit, ↓loopC_norm, ↓loopC_ret, ↓loopC_exit, ↓endR_ret, ↓endR_norm, resK_none, resK_t, resK_tt, KNO_val, KNO_new, KNO_ite, KNO_map, KXO_some, KXO_ite, KVA_t, KVA_f, KG_skip, KG_tt, KG_ff, KG_tf, KG_ft, KB_true, KB_false, KNOD_val, KNOD_new, KNOD_ite, n_mv, n_pick, n_bin, n_eqB, n_eqN, n_eqS, n_un, n_conv, n_fadd, n_faddV, n_fld1, n_fldN, n_idx, n_idxA, n_idxV, n_idxAV, n_ext, n_lenS, n_lenS0, n_lenV, n_lenT, n_lenA, n_min, n_max, n_build, n_mkfn, n_slc, n_slc0, n_slcV, n_slcA, n_load1, n_loadN, n_load1V, n_loadNV, n_alloc, n_box, n_bsl, n_mksl, n_nilcP, n_nilcV, n_nilcI, n_nilcF, x_store, x_clear0, x_clear, b_add, b_sub, b_mul, b_eql, b_neq, b_lss, b_leq, b_gtr, b_geq, b_and16, unV, ntouch, gather, hide, unhide, evalOpd, applyOuts, int_bne, int_beq, ite_bool, ite_int, one_bool, cells_bool, one_int, cells_int, one_str, cells_str, one_nilp, cells_nilp, one_ptr, cells_ptr, one_nils, cells_nils, one_sl, cells_sl, one_nilf, cells_nilf, one_fn, cells_fn, one_nili, cells_nili, one_mp, cells_mp, one_nilm, cells_nilm, one_iface, cells_iface, one_vs, cells_vs, one_vp, cells_vp, cells_agg, Nat.testBit, setAt_1, setAt_2, closeds_nil, closeds_cons, closed_bool, closed_int, closed_str, closed_nilp, closed_nils, closed_nilm, closed_nilf, closed_nili, closed_agg, closed_tup, closed_vs, closed_vp, closed_iface, closed_fn, closeds_cI, closeds_cE, viewA_closed, viewR_closed, AV.scal, AV.scal0, fillA, repA, part_bool, part_int, part_str, part_nilp, part_ptr, part_nils, part_sl, part_nilm, part_mp, part_nilf, part_fn, part_nili, part_iface, part_agg, part_vs, part_vp, viewA_sl1, vaSl_cells, wrap_0, wrap_1, wrap_2, wrap_m1, set_last, get_last, er20_0, er20_1, er20_2, er20_3, er20_4, er20_5, er20_6, er20_7, er20_9, er20_10, er20_11, er20_12, er20_13, er20_14, er20_15, er20_16, er20_17, er20_18, er20_20, er20_21, er20_22, er20_23, er20_24, er20_25, er20_26, er20_28, er20_30, hVl, hjl', hjl, o1, o2, o2', z1, z2, z1', z2', hxi, hxy, w1, w2, w3, w4, d1, d2, a2, a2', s1, s2, e1, e2, hjw]
        refine next_mk (m2 - 1) (by omega) ⟨j + 1, _, _, _, _, by omega, by rw [hts]; exact tab_add hT hxM hyM hxy, a5 _ (by simp), (List.getElem?_set_ne (by omega)).trans hG, hV.keep fun b hb => List.getElem?_set_ne (by have := hbl b hb; omega), rfl⟩
    · have hjl' : ¬ (j : Int) < cs.length := by omega
      have htk : cs.take j = cs := List.take_of_length_le (by omega)
      rw [htk] at hT
      simp [↓getD_z, ↓getD_s, -List.getD_eq_getElem?_getD, -Int.ofNat_toNat, -getElem?_pos, gz, ↓hid_k, ↓hid_o, ↓hid_q, ↓hid_v, ↓PO_nil, ↓PO_none, ↓PO_grd, ↓PD_nil, ↓PD_none, ↓PD_grd, ↓PDO_N, ↓PDO_X, ↓PDO_call, ↓PDO_calli, ↓PDO_callv, PDX_free, PDX_eq, ↓PStep_N, ↓PStep_X, ↓PStep_call, ↓PStep_calli, PStep_callv, ↓PC_skip, ↓PC_lab, ↓PC_ret, ↓PC_exit, ↓PC_reg, ↓PC_draw, ↓PC_seq, ↓PC_block, ↓PC_loop, ↓PC_scope, ↓PC_cond, ↓thenC_norm, ↓thenC_ret, ↓thenC_exit, ↓blockC_norm, ↓blockC_ret, ↓blockC_exit, ↓loopC_norm, ↓loopC_ret, ↓loopC_exit, ↓endR_ret, ↓endR_norm, resK_none, resK_t, resK_tt, KNO_val, KNO_new, KNO_ite, KNO_map, KXO_some, KXO_ite, KVA_t, KVA_f, KG_skip, KG_tt, KG_ff, KG_tf, KG_ft, KB_true, KB_false, KNOD_val, KNOD_new, KNOD_ite, n_mv, n_pick, n_bin, n_eqB, n_eqN, n_eqS, n_un, n_conv, n_fadd, n_faddV, n_fld1, n_fldN, n_idx, n_idxA, n_idxV, n_idxAV, n_ext, n_lenS, n_lenS0, n_lenV, n_lenT, n_lenA, n_min, n_max, n_build, n_mkfn, n_slc, n_slc0, n_slcV, n_slcA, n_load1, n_loadN, n_load1V, n_loadNV, n_alloc, n_box, n_bsl, n_mksl, n_nilcP, n_nilcV, n_nilcI, n_nilcF, x_store, x_clear0, x_clear, b_add, b_sub, b_mul, b_eql, b_neq, b_lss, b_leq, b_gtr, b_geq, b_and16, unV, ntouch, gather, hide, unhide, evalOpd, applyOuts, int_bne, int_beq, ite_bool, ite_int, one_bool, cells_bool, one_int, cells_int, one_str, cells_str, one_nilp, cells_nilp, one_ptr, cells_ptr, one_nils, cells_nils, one_sl, cells_sl, one_nilf, cells_nilf, one_fn, cells_fn, one_nili, cells_nili, one_mp, cells_mp, one_nilm, cells_nilm, one_iface, cells_iface, one_vs, cells_vs, one_vp, cells_vp, cells_agg, Nat.testBit, setAt_1, setAt_2, closeds_nil, closeds_cons, closed_bool, closed_int, closed_str, closed_nilp, closed_nils, closed_nilm, closed_nilf, closed_nili, closed_agg, closed_tup, closed_vs, closed_vp, closed_iface, closed_fn, closeds_cI, closeds_cE, viewA_closed, viewR_closed, AV.scal, AV.scal0, fillA, repA, part_bool, part_int, part_str, part_nilp, part_ptr, part_nils, part_sl, part_nilm, part_mp, part_nilf, part_fn, part_nili, part_iface, part_agg, part_vs, part_vp, viewA_sl1, vaSl_cells, wrap_0, wrap_1, wrap_2, wrap_m1, set_last, get_last, er20_0, er20_1, er20_2, er20_3, er20_4, er20_5, er20_6, er20_7, er20_9, er20_10, er20_11, er20_12, er20_13, er20_14, er20_15, er20_16, er20_17, er20_18, er20_20, er20_21, er20_22, er20_23, er20_24, er20_25, er20_26, er20_28, er20_30, hVl, hjl', hjl]
      refine pc_loopI (fun m st => ∃ (a : Nat) (p11 p15 p16 p17 p18 : AV), a + m = M ∧ st = ([.int .i64 M, v, .bool false, .bool true, o, .int .i64 i, .ptr F.length 0 0, .int .i64 0, PV, .int .i64 j, .int .i64 a, p11, .bool false, .bool false, .bool false, p15, p16, p17, p18], H')) M ⟨0, _, _, _, _, _, by simp, rfl⟩ ?_
      rintro m3 st3 ⟨a, p11, p15, p16, p17, p18, ha, rfl⟩
      by_cases hal' : a < M
      · have haw := wrap1 hal' (by omega)
        simp [↓getD_z, ↓getD_s, -List.getD_eq_getElem?_getD, -Int.ofNat_toNat, -getElem?_pos, gz, ↓hid_k, ↓hid_o, ↓hid_q, ↓hid_v, ↓PO_nil, ↓PO_none, ↓PO_grd, ↓PD_nil, ↓PD_none, ↓PD_grd, ↓PDO_N, ↓PDO_X, ↓PDO_call, ↓PDO_calli, ↓PDO_callv, PDX_free, PDX_eq, ↓PStep_N, ↓PStep_X, ↓PStep_call, ↓PStep_calli, PStep_callv, ↓PC_skip, ↓PC_lab, ↓PC_ret, ↓PC_exit, ↓PC_reg, ↓PC_draw, ↓PC_seq, ↓PC_block, ↓PC_loop, ↓PC_scope, ↓PC_cond, ↓thenC_norm, ↓thenC_ret, ↓thenC_exit, ↓blockC_norm, ↓blockC_ret, ↓blockC_exit, ↓loopC_norm, ↓loopC_ret, ↓loopC_exit, ↓endR_ret, ↓endR_norm, resK_none, resK_t, resK_tt, KNO_val, KNO_new, KNO_ite, KNO_map, KXO_some, KXO_ite, KVA_t, KVA_f, KG_skip, KG_tt, KG_ff, KG_tf, KG_ft, KB_true, KB_false, KNOD_val, KNOD_new, KNOD_ite, n_mv, n_pick, n_bin, n_eqB, n_eqN, n_eqS, n_un, n_conv, n_fadd, n_faddV, n_fld1, n_fldN, n_idx, n_idxA, n_idxV, n_idxAV, n_ext, n_lenS, n_lenS0, n_lenV, n_lenT, n_lenA, n_min, n_max, n_build, n_mkfn, n_slc, n_slc0, n_slcV, n_slcA, n_load1, n_loadN, n_load1V, n_loadNV, n_alloc, n_box, n_bsl, n_mksl, n_nilcP, n_nilcV, n_nilcI, n_nilcF, x_store, x_clear0, x_clear, b_add, b_sub, b_mul, b_eql, b_neq, b_lss, b_leq, b_gtr, b_geq, b_and16, unV, ntouch, gather, hide, unhide, evalOpd, applyOuts, int_bne, int_beq, ite_bool, ite_int, one_bool, cells_bool, one_int, cells_int, one_str, cells_str, one_nilp, cells_nilp, one_ptr, cells_ptr, one_nils, cells_nils, one_sl, cells_sl, one_nilf, cells_nilf, one_fn, cells_fn, one_nili, cells_nili, one_mp, cells_mp, one_nilm, cells_nilm, one_iface, cells_iface, one_vs, cells_vs, one_vp, cells_vp, cells_agg, Nat.testBit, setAt_1, setAt_2, closeds_nil, closeds_cons, closed_bool, closed_int, closed_str, closed_nilp, closed_nils, closed_nilm, closed_nilf, closed_nili, closed_agg, closed_tup, closed_vs, closed_vp, closed_iface, closed_fn, closeds_cI, closeds_cE, viewA_closed, viewR_closed, AV.scal, AV.scal0, fillA, repA, part_bool, part_int, part_str, part_nilp, part_ptr, part_nils, part_sl, part_nilm, part_mp, part_nilf, part_fn, part_nili, part_iface, part_agg, part_vs, part_vp, viewA_sl1, vaSl_cells, wrap_0, wrap_1, wrap_2, wrap_m1, set_last, get_last, er20_0, er20_1, er20_2, er20_3, er20_4, er20_5, er20_6, er20_7, er20_9, er20_10, er20_11, er20_12, er20_13, er20_14, er20_15, er20_16, er20_17, er20_18, er20_20, er20_21, er20_22, er20_23, er20_24, er20_25, er20_26, er20_28, er20_30, hal']
        refine pc_loopI (fun m st => ∃ (b : Nat) (q17 q18 : AV), b + m = M ∧ st = ([.int .i64 M, v, .bool false, .bool true, o, .int .i64 i, .ptr F.length 0 0, .int .i64 0, PV, .int .i64 j, .int .i64 a, .int .i64 b, .bool false, .bool false, .bool false, p15, .bool true, q17, q18], H')) M ⟨0, _, _, by simp, rfl⟩ ?_
        rintro m4 st4 ⟨b, q17, q18, hb, rfl⟩
        by_cases hbl' : b < M
        · have hbw := wrap1 hbl' (by omega)
          have l1 := idx_lt hal' hbl'
          have m1 : (a : Int) * (M : Int) = ((a * M : Nat) : Int) := by simp
          have w1 : IntKind.i64.wrap ((a : Int) * (M : Int)) = (a : Int) * (M : Int) := by rw [m1]; exact wrap_in (by omega) (by omega)
          have w2 : IntKind.i64.wrap ((a : Int) * (M : Int) + (b : Int)) = (a : Int) * (M : Int) + (b : Int) := by rw [m1]; exact wrap_in (by omega) (by omega)
          obtain ⟨pb, pg, a1, a2, a3, a4, a5⟩ := Own.at hP l1
          have hcg := hT.2 a b hal' hbl'
          have hcl := hT.1
          have d1 : ∀ (k : IntKind) rd, nstep (.idx 1) [PV, .int k ((a : Int) * (M : Int) + (b : Int))] rd = some (.val (.ptr pb pg (a * M + b))) := fun k rd => by
            have := a1 k rd; rw [Nat.mul_one] at this; rw [← this]; simp
          have e1 : a * M + b + 1 ≤ c.length := by omega
          have cab := cH a b
          rw [hasP_set hRt] at cab
          generalize hasP cs a b = hv' at *
          simp [↓getD_z, ↓getD_s, -List.getD_eq_getElem?_getD, -Int.ofNat_toNat, -getElem?_pos, gz, ↓hid_k, ↓hid_o, ↓hid_q, ↓hid_v, ↓PO_nil, ↓PO_none, ↓PO_grd, ↓PD_nil, ↓PD_none, ↓PD_grd, ↓PDO_N, ↓PDO_X, ↓PDO_call, ↓PDO_calli, ↓PDO_callv, PDX_free, PDX_eq, ↓PStep_N, ↓PStep_X, ↓PStep_call, ↓PStep_calli, PStep_callv, ↓PC_skip, ↓PC_lab, ↓PC_ret, ↓PC_exit, ↓PC_reg, ↓PC_draw, ↓PC_seq, ↓PC_block, ↓PC_loop, ↓PC_scope, ↓PC_cond, ↓thenC_norm, ↓thenC_ret, ↓thenC_exit, ↓blockC_norm, ↓blockC_ret, ↓blockC_exit, ↓loopC_norm, ↓loopC_ret, ↓loopC_exit, ↓endR_ret, ↓endR_norm, resK_none, resK_t, resK_tt, KNO_val, KNO_new, KNO_ite, KNO_map, KXO_some, KXO_ite, KVA_t, KVA_f, KG_skip, KG_tt, KG_ff, KG_tf, KG_ft, KB_true, KB_false, KNOD_val, KNOD_new, KNOD_ite, n_mv, n_pick, n_bin, n_eqB, n_eqN, n_eqS, n_un, n_conv, n_fadd, n_faddV, n_fld1, n_fldN, n_idx, n_idxA, n_idxV, n_idxAV, n_ext, n_lenS, n_lenS0, n_lenV, n_lenT, n_lenA, n_min, n_max, n_build, n_mkfn, n_slc, n_slc0, n_slcV, n_slcA, n_load1, n_loadN, n_load1V, n_loadNV, n_alloc, n_box, n_bsl, n_mksl, n_nilcP, n_nilcV, n_nilcI, n_nilcF, x_store, x_clear0, x_clear, b_add, b_sub, b_mul, b_eql, b_neq, b_lss, b_leq, b_gtr, b_geq, b_and16, unV, ntouch, gather, hide, unhide, evalOpd, applyOuts, int_bne, int_beq, ite_bool, ite_int, one_bool, cells_bool, one_int, cells_int, one_str, cells_str, one_nilp, cells_nilp, one_ptr, cells_ptr, one_nils, cells_nils, one_sl, cells_sl, one_nilf, cells_nilf, one_fn, cells_fn, one_nili, cells_nili, one_mp, cells_mp, one_nilm, cells_nilm, one_iface, cells_iface, one_vs, cells_vs, one_vp, cells_vp, cells_agg, Nat.testBit, setAt_1, setAt_2, closeds_nil, closeds_cons, closed_bool, closed_int, closed_str, closed_nilp, closed_nils, closed_nilm, closed_nilf, closed_nili, closed_agg, closed_tup, closed_vs, closed_vp, closed_iface, closed_fn, closeds_cI, closeds_cE, viewA_closed, viewR_closed, AV.scal, AV.scal0, fillA, repA, part_bool, part_int, part_str, part_nilp, part_ptr, part_nils, part_sl, part_nilm, part_mp, part_nilf, part_fn, part_nili, part_iface, part_agg, part_vs, part_vp, viewA_sl1, vaSl_cells, wrap_0, wrap_1, wrap_2, wrap_m1, set_last, get_last, er20_0, er20_1, er20_2, er20_3, er20_4, er20_5, er20_6, er20_7, er20_9, er20_10, er20_11, er20_12, er20_13, er20_14, er20_15, er20_16, er20_17, er20_18, er20_20, er20_21, er20_22, er20_23, er20_24, er20_25, er20_26, er20_28, er20_30, hbl', hG, cab, w1, w2, d1, a2, hcg, e1, iS.closed, iS.one, hbw]
          exact next_mk (m4 - 1) (by omega) ⟨b + 1, _, _, by omega, rfl⟩
        · simp [↓getD_z, ↓getD_s, -List.getD_eq_getElem?_getD, -Int.ofNat_toNat, -getElem?_pos, gz, ↓hid_k, ↓hid_o, ↓hid_q, ↓hid_v, ↓PO_nil, ↓PO_none, ↓PO_grd, ↓PD_nil, ↓PD_none, ↓PD_grd, ↓PDO_N, ↓PDO_X, ↓PDO_call, ↓PDO_calli, ↓PDO_callv, PDX_free, PDX_eq, ↓PStep_N, ↓PStep_X, ↓PStep_call, ↓PStep_calli, PStep_callv, ↓PC_skip, ↓PC_lab, ↓PC_ret, ↓PC_exit, ↓PC_reg, ↓PC_draw, ↓PC_seq, ↓PC_block, ↓PC_loop, ↓PC_scope, ↓PC_cond, ↓thenC_norm, ↓thenC_ret, ↓thenC_exit, ↓blockC_norm, ↓blockC_ret, ↓blockC_exit, ↓loopC_norm, ↓loopC_ret, ↓loopC_exit, ↓endR_ret, ↓endR_norm, resK_none, resK_t, resK_tt, KNO_val, KNO_new, KNO_ite, KNO_map, KXO_some, KXO_ite, KVA_t, KVA_f, KG_skip, KG_tt, KG_ff, KG_tf, KG_ft, KB_true, KB_false, KNOD_val, KNOD_new, KNOD_ite, n_mv, n_pick, n_bin, n_eqB, n_eqN, n_eqS, n_un, n_conv, n_fadd, n_faddV, n_fld1, n_fldN, n_idx, n_idxA, n_idxV, n_idxAV, n_ext, n_lenS, n_lenS0, n_lenV, n_lenT, n_lenA, n_min, n_max, n_build, n_mkfn, n_slc, n_slc0, n_slcV, n_slcA, n_load1, n_loadN, n_load1V, n_loadNV, n_alloc, n_box, n_bsl, n_mksl, n_nilcP, n_nilcV, n_nilcI, n_nilcF, x_store, x_clear0, x_clear, b_add, b_sub, b_mul, b_eql, b_neq, b_lss, b_leq, b_gtr, b_geq, b_and16, unV, ntouch, gather, hide, unhide, evalOpd, applyOuts, int_bne, int_beq, ite_bool, ite_int, one_bool, cells_bool, one_int, cells_int, one_str, cells_str, one_nilp, cells_nilp, one_ptr, cells_ptr, one_nils, cells_nils, one_sl, cells_sl, one_nilf, cells_nilf, one_fn, cells_fn, one_nili, cells_nili, one_mp, cells_mp, one_nilm, cells_nilm, one_iface, cells_iface, one_vs, cells_vs, one_vp, cells_vp, cells_agg, Nat.testBit, setAt_1, setAt_2, closeds_nil, closeds_cons, closed_bool, closed_int, closed_str, closed_nilp, closed_nils, closed_nilm, closed_nilf, closed_nili, closed_agg, closed_tup, closed_vs, closed_vp, closed_iface, closed_fn, closeds_cI, closeds_cE, viewA_closed, viewR_closed, AV.scal, AV.scal0, fillA, repA, part_bool, part_int, part_str, part_nilp, part_ptr, part_nils, part_sl, part_nilm, part_mp, part_nilf, part_fn, part_nili, part_iface, part_agg, part_vs, part_vp, viewA_sl1, vaSl_cells, wrap_0, wrap_1, wrap_2, wrap_m1, set_last, get_last, er20_0, er20_1, er20_2, er20_3, er20_4, er20_5, er20_6, er20_7, er20_9, er20_10, er20_11, er20_12, er20_13, er20_14, er20_15, er20_16, er20_17, er20_18, er20_20, er20_21, er20_22, er20_23, er20_24, er20_25, er20_26, er20_28, er20_30, hbl', haw]
          exact next_mk (m3 - 1) (by omega) ⟨a + 1, _, _, _, _, _, by omega, rfl⟩
      · simp [↓getD_z, ↓getD_s, -List.getD_eq_getElem?_getD, -Int.ofNat_toNat, -getElem?_pos, gz, ↓hid_k, ↓hid_o, ↓hid_q, ↓hid_v, ↓PO_nil, ↓PO_none, ↓PO_grd, ↓PD_nil, ↓PD_none, ↓PD_grd, ↓PDO_N, ↓PDO_X, ↓PDO_call, ↓PDO_calli, ↓PDO_callv, PDX_free, PDX_eq, ↓PStep_N, ↓PStep_X, ↓PStep_call, ↓PStep_calli, PStep_callv, ↓PC_skip, ↓PC_lab, ↓PC_ret, ↓PC_exit, ↓PC_reg, ↓PC_draw, ↓PC_seq, ↓PC_block, ↓PC_loop, ↓PC_scope, ↓PC_cond, ↓thenC_norm, ↓thenC_ret, ↓thenC_exit, ↓blockC_norm, ↓blockC_ret, ↓blockC_exit, ↓loopC_norm, ↓loopC_ret, ↓loopC_exit, ↓endR_ret, ↓endR_norm, resK_none, resK_t, resK_tt, KNO_val, KNO_new, KNO_ite, KNO_map, KXO_some, KXO_ite, KVA_t, KVA_f, KG_skip, KG_tt, KG_ff, KG_tf, KG_ft, KB_true, KB_false, KNOD_val, KNOD_new, KNOD_ite, n_mv, n_pick, n_bin, n_eqB, n_eqN, n_eqS, n_un, n_conv, n_fadd, n_faddV, n_fld1, n_fldN, n_idx, n_idxA, n_idxV, n_idxAV, n_ext, n_lenS, n_lenS0, n_lenV, n_lenT, n_lenA, n_min, n_max, n_build, n_mkfn, n_slc, n_slc0, n_slcV, n_slcA, n_load1, n_loadN, n_load1V, n_loadNV, n_alloc, n_box, n_bsl, n_mksl, n_nilcP, n_nilcV, n_nilcI, n_nilcF, x_store, x_clear0, x_clear, b_add, b_sub, b_mul, b_eql, b_neq, b_lss, b_leq, b_gtr, b_geq, b_and16, unV, ntouch, gather, hide, unhide, evalOpd, applyOuts, int_bne, int_beq, ite_bool, ite_int, one_bool, cells_bool, one_int, cells_int, one_str, cells_str, one_nilp, cells_nilp, one_ptr, cells_ptr, one_nils, cells_nils, one_sl, cells_sl, one_nilf, cells_nilf, one_fn, cells_fn, one_nili, cells_nili, one_mp, cells_mp, one_nilm, cells_nilm, one_iface, cells_iface, one_vs, cells_vs, one_vp, cells_vp, cells_agg, Nat.testBit, setAt_1, setAt_2, closeds_nil, closeds_cons, closed_bool, closed_int, closed_str, closed_nilp, closed_nils, closed_nilm, closed_nilf, closed_nili, closed_agg, closed_tup, closed_vs, closed_vp, closed_iface, closed_fn, closeds_cI, closeds_cE, viewA_closed, viewR_closed, AV.scal, AV.scal0, fillA, repA, part_bool, part_int, part_str, part_nilp, part_ptr, part_nils, part_sl, part_nilm, part_mp, part_nilf, part_fn, part_nili, part_iface, part_agg, part_vs, part_vp, viewA_sl1, vaSl_cells, wrap_0, wrap_1, wrap_2, wrap_m1, set_last, get_last, er20_0, er20_1, er20_2, er20_3, er20_4, er20_5, er20_6, er20_7, er20_9, er20_10, er20_11, er20_12, er20_13, er20_14, er20_15, er20_16, er20_17, er20_18, er20_20, er20_21, er20_22, er20_23, er20_24, er20_25, er20_26, er20_28, er20_30, hal', hG, cH1, cH2, iS.closed, iS.one, resK, resVs, resV, pack]
end Go.Ai.G
