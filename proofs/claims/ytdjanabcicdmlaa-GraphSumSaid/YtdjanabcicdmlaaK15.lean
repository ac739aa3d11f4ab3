/- A part of what the law leans on: the abstract machine, the contracts, the rows. -/
import Derived.Test.YtdjanabcicdmlaaK11
import Derived.Test.YtdjanabcicdmlaaK14
import Derived.Test.YtdjanabcicdmlaaK7
/- What graph.Has and graph.Near tell, against the reference; all contracts together. -/
namespace Go.Ai.G
open Go.Ai
set_option linter.unusedVariables false
set_option linter.unusedSimpArgs false
variable {A : AProg} {φ : Nat → Nat}
def nbo (v : Int) (x : Ed) : List Int := (if x.2 = v then [x.1] else []) ++ (if x.1 = v then [x.2] else [])
theorem nbs_all (v : Int) : ∀ (es : List Ed), es.Pairwise ltE → (∀ x ∈ es, x.1 < x.2) → nbs v es = es.flatMap (nbo v)
  | [], _, _ => rfl
  | x :: l, hp, hx => by
    rw [List.pairwise_cons] at hp
    simp only [nbs]
    split
    · rename_i h
      symm
      rw [List.flatMap_eq_nil_iff]
      intro y hy
      have hxy : x.1 ≤ y.1 := by
        rcases List.mem_cons.1 hy with rfl | hy
        · exact Int.le_refl _
        · have := hp.1 y hy; unfold ltE at this; omega
      have := hx y hy
      simp only [nbo]
      rw [if_neg (by omega), if_neg (by omega)]; rfl
    · rw [List.flatMap_cons, nbs_all v l hp.2 (fun y hy => hx y (List.mem_cons_of_mem _ hy)), nbo]
theorem nbo_sorted (v : Int) (es : List Ed) (hp : es.Pairwise ltE) (hx : ∀ x ∈ es, x.1 < x.2) : (es.flatMap (nbo v)).Pairwise (· ≤ ·) := by
  rw [List.pairwise_flatMap]
  constructor
  · intro x hm
    have := hx x hm
    unfold nbo
    by_cases h1 : x.2 = v
    · rw [if_pos h1, if_neg (by omega)]; simp
    · rw [if_neg h1]; split <;> simp
  · refine List.Pairwise.imp_of_mem ?_ hp
    intro x y hmx hmy hl p hp q hq
    have h1 := hx x hmx
    have h2 := hx y hmy
    unfold ltE at hl
    simp only [nbo, List.mem_append] at hp hq
    by_cases a1 : x.2 = v <;> by_cases a2 : x.1 = v <;> by_cases a3 : y.2 = v <;> by_cases a4 : y.1 = v <;> simp [a1, a2, a3, a4] at hp hq <;> omega
theorem nbo_perm (v : Int) : ∀ (es : List Ed), (es.flatMap (nbo v)).Perm (nbR v es)
  | [] => List.Perm.refl _
  | x :: l => by
    simp only [nbR, List.flatMap_cons]
    refine List.Perm.append ?_ (nbo_perm v l)
    unfold nbo nbr
    by_cases h1 : x.1 = v <;> by_cases h2 : x.2 = v <;> simp [h1, h2] <;> first | exact List.Perm.swap _ _ _ | exact List.Perm.refl _ | skip
theorem right_lt {n : Int} {es : List Ed} (h : rightE n es = true) : ∀ x ∈ es, x.1 < x.2 := by
  intro x hx
  obtain ⟨i, hi, rfl⟩ := List.getElem_of_mem hx
  exact (right_step h hi).2.1
theorem near_sort {n : Int} {es : List Ed} (a : Int) (h : rightE n es = true) : nbs a es = sortI (nbR a es) := by
  rw [nbs_all a es (right_strict h) (right_lt h)]
  exact (sortI_of (nbo_sorted a es (right_strict h) (right_lt h)) (nbo_perm a es)).symm
theorem nearI_eq (n : Int) (es : List Ed) (a : Int) : nearI n es a = if rightE n es then sortI (nbR a es) else [] := by
  unfold nearI
  split
  · rename_i h; exact near_sort a h
  · rfl
theorem has_eq (n : Int) (es : List Ed) (a b : Int) : (nearI n es a).contains b = hasE n es a b := by
  unfold nearI hasE
  cases h : rightE n es with
  | false => simp
  | true =>
    rw [if_pos rfl, nbs_all a es (right_strict h) (right_lt h), Bool.true_and, Bool.eq_iff_iff]
    simp only [List.contains_iff_mem, List.mem_flatMap, nbo, List.mem_append, Bool.or_eq_true, decide_eq_true_eq]
    constructor
    · rintro ⟨⟨x, y⟩, hm, h | h⟩
      · simp only at h; split at h
        · rename_i e; simp at h; subst h; subst e; exact .inr hm
        · simp at h
      · simp only at h; split at h
        · rename_i e; simp at h; subst h; subst e; exact .inl hm
        · simp at h
    · rintro (h | h)
      · exact ⟨_, h, .inr (by simp)⟩
      · exact ⟨_, h, .inl (by simp)⟩
/-- All that the laws ask of the graph's functions and of the reference's. -/
structure GC (A : AProg) (φ : Nat → Nat) : Prop where
  normal : NormalC A (φ 1)
  rnormal : NormalC A (φ 2)
  right : RightC A (φ 4)
  rright : RightC A (φ 6)
  has : ∀ n a b v es, IsE v es → PVal A (φ 7) [gV n v, .int .i64 a, .int .i64 b] (.bool (hasE n es a b))
  rhas : ∀ n a b v es, IsE v es → PVal A (φ 8) [gV n v, .int .i64 a, .int .i64 b] (.bool (hasE n es a b))
  near : ∀ n a v es, IsE v es → PVal A (φ 9) [gV n v, .int .i64 a] (rI (if rightE n es then sortI (nbR a es) else []))
  rnear : ∀ n a v es, IsE v es → PVal A (φ 10) [gV n v, .int .i64 a] (vI (if rightE n es then sortI (nbR a es) else []))
  degrees : ∀ n v es, IsE v es → PVal A (φ 12) [gV n v] (if rightE n es then vI (degs n es) else .nils)
  rdegrees : ∀ n v es, IsE v es → PVal A (φ 13) [gV n v] (vI (if rightE n es then degs n es else []))
  add : ∀ n a b v es, IsE v es → PVal A (φ 15) [gV n v, .int .i64 a, .int .i64 b] (gR (addE n es a b))
  radd : ∀ n a b v es, IsE v es → PVal A (φ 16) [gV n v, .int .i64 a, .int .i64 b] (gR (addE n es a b))
  without : ∀ n a b v es, IsE v es → PVal A (φ 17) [gV n v, .int .i64 a, .int .i64 b] (gW (withoutE n es a b))
  rwithout : ∀ n a b v es, IsE v es → PVal A (φ 18) [gV n v, .int .i64 a, .int .i64 b] (gR (withoutE n es a b))
  same : ∀ v u xs ys, IsI v xs → IsI u ys → xs.length < 1000000000000 → PVal A (φ 11) [v, u] (.bool (decide (xs = ys)))
  sameE : ∀ v u xs ys, IsE v xs → IsE u ys → xs.length < 1000000000000 → PVal A (φ 23) [v, u] (.bool (decide (xs = ys)))
  sameG : ∀ n m v u xs ys, IsE v xs → IsE u ys → xs.length < 1000000000000 → PVal A (φ 3) [gV n v, gV m u] (.bool (decide (n = m ∧ xs = ys)))
  rin : ∀ v xs x, IsI v xs → xs.length < 1000000000000 → PVal A (φ 25) [v, .int .i64 x] (.bool (decide (x ∈ xs)))
  any : ∀ n most v l, IsE v l → 0 ≤ most → most ≤ 1000 → PVal A (φ 22) [.int .i64 n, v, .int .i64 most] (gV (anyN n most) (rE (anyE n most l)))
/-- The functions, as this program bears them. -/
structure GH (A : AProg) (φ : Nat → Nat) : Prop where
  normal : Has A (φ 1) (f1 φ)
  rnormal : Has A (φ 2) (f2 φ)
  right : Has A (φ 4) (f4 φ)
  rright : Has A (φ 6) (f6 φ)
  rhas : Has A (φ 8) (f8 φ)
  rnear : Has A (φ 10) (f10 φ)
  degrees : Has A (φ 12) (f12 φ)
  rdegrees : Has A (φ 13) (f13 φ)
  add : Has A (φ 15) (f15 φ)
  radd : Has A (φ 16) (f16 φ)
  without : Has A (φ 17) (f17 φ)
  rwithout : Has A (φ 18) (f18 φ)
  same : Has A (φ 11) (f11 φ)
  sameE : Has A (φ 23) (f23 φ)
  sameG : Has A (φ 3) (f3 φ)
  rin : Has A (φ 25) (f25 φ)
  any : Has A (φ 22) (f22 φ)
  sorted : Has A (φ 30) (f30 φ)
  compare : Has A (φ 31) (f31 φ)
  cmp : Has A (φ 35) (f35 φ)
  nan : Has A (φ 37) (f37 φ)
  or : Has A (φ 36) (f36 φ)
  compact : Has A (φ 28) (f28 φ)
  clone : Has A (φ 32) (f32 φ)
  index : Has A (φ 33) (f33 φ)
  delete : Has A (φ 34) (f34 φ)
  sort : A.ext (φ 27) = some (sortExt (φ 29))
  hasx : A.ext (φ 7) = some hasExt
  nearx : A.ext (φ 9) = some nearExt
theorem GH.gc (h : GH A φ) : GC A φ := by
  have hcmp := w_compare h.compare h.cmp h.nan h.or
  have hR : RightC A (φ 4) := fun n v es hv => w_Right h.right hcmp n v es hv
  have hRR : RightC A (φ 6) := fun n v es hv => w_RRight h.rright n v es hv
  have hN : NormalC A (φ 1) := fun n v l hv hn => w_Normal h.normal h.sort h.compact n v l hv hn
  have hRN : NormalC A (φ 2) := fun n v l hv hn => w_RNormal h.rnormal h.rin h.sorted n v l hv hn
  have hRH := fun n a b v es (hv : IsE v es) => w_RHas h.rhas h.rright n a b v es hv
  exact {
    normal := hN, rnormal := hRN, right := hR, rright := hRR
    has := fun n a b v es hv => by rw [← has_eq]; exact pval_hasx h.hasx n a b v es hv
    rhas := hRH
    near := fun n a v es hv => by rw [← nearI_eq]; exact pval_near h.nearx n a v es hv
    rnear := fun n a v es hv => w_RNear h.rnear h.rright h.sorted n a v es hv
    degrees := fun n v es hv => w_Degrees h.degrees hR n v es hv
    rdegrees := fun n v es hv => w_RDegrees h.rdegrees h.rnear h.rright h.sorted n v es hv
    add := fun n a b v es hv => w_Add h.add hR hN h.clone n a b v es hv
    radd := fun n a b v es hv => w_RAdd h.radd hRR hRN n a b v es hv
    without := fun n a b v es hv => w_Without h.without hR h.index h.clone h.delete n a b v es hv
    rwithout := fun n a b v es hv => w_RWithout h.rwithout hRR hRH n a b v es hv
    same := fun v u xs ys hv hu hn => w_Same h.same v u xs ys hv hu hn
    sameE := fun v u xs ys hv hu hn => w_SameEdges h.sameE v u xs ys hv hu hn
    sameG := fun n m v u xs ys hv hu hn => w_SameGraph h.sameG h.sameE n m v u xs ys hv hu hn
    rin := fun v xs x hv hn => w_In h.rin v xs x hv hn
    any := fun n most v l hv h0 h1 => w_Any h.any hRN n most v l hv h0 h1 }
end Go.Ai.G
/- The laws of the chapter on graphs. -/
namespace Go.Ai.G
open Go.Ai
set_option maxRecDepth 100000
set_option linter.unusedSimpArgs false
set_option linter.unusedVariables false
variable {A : AProg} {φ : Nat → Nat}
theorem er5_0 (φ : Nat → Nat) : r5_0 φ = [
  ⟨0, .N .mv, [.c (.bool false)], none, 0⟩] := Eq.trans rfl rfl
theorem er5_1 (φ : Nat → Nat) : r5_1 φ = [
  ⟨0, .calli true (φ 0), [], none, 0⟩,
  ⟨1, .N .mv, [.l 0], none, 0⟩] := Eq.trans rfl rfl
theorem er5_2 (φ : Nat → Nat) : r5_2 φ = [
  ⟨0, .N .mv, [.n 1], none, 0⟩,
  ⟨1, .N .mv, [.n 1], none, 0⟩,
  ⟨2, .N .lenS, [.l 0], none, 0⟩,
  ⟨3, .N .min, [.l 0, .c (.int .i64 300)], none, 0⟩,
  ⟨4, .N (.slc 2 false true false), [.l 3, .l 0], none, 0⟩,
  ⟨5, .N .mv, [.l 0], none, 0⟩] := Eq.trans rfl rfl
theorem er5_3 (φ : Nat → Nat) : r5_3 φ = [
  ⟨0, .N .mv, [.n 0], none, 0⟩,
  ⟨1, .N .mv, [.n 1], none, 0⟩,
  ⟨2, .calli false (φ 1), [.l 1, .l 0], none, 0⟩,
  ⟨3, .N .mv, [.l 0], none, 0⟩,
  ⟨4, .N (.ext 0), [.l 0], none, 0⟩,
  ⟨5, .N (.ext 1), [.l 1], none, 0⟩,
  ⟨6, .N (.alloc [.int .i64 0, .nils]), [], none, 0⟩,
  ⟨7, .X (.store 2), [.l 0, .l 2], none, 0⟩,
  ⟨8, .N .mv, [.l 2], none, 0⟩] := Eq.trans rfl rfl
theorem er5_4 (φ : Nat → Nat) : r5_4 φ = [
  ⟨0, .N .mv, [.n 0], none, 0⟩,
  ⟨1, .N .mv, [.n 1], none, 0⟩,
  ⟨2, .calli false (φ 2), [.l 1, .l 0], none, 0⟩,
  ⟨3, .N .mv, [.l 0], none, 0⟩,
  ⟨4, .N (.ext 0), [.l 0], none, 0⟩,
  ⟨5, .N (.ext 1), [.l 1], none, 0⟩,
  ⟨6, .N (.alloc [.int .i64 0, .nils]), [], none, 0⟩,
  ⟨7, .X (.store 2), [.l 0, .l 2], none, 0⟩,
  ⟨8, .N .mv, [.l 2], none, 0⟩] := Eq.trans rfl rfl
theorem er5_5 (φ : Nat → Nat) : r5_5 φ = [
  ⟨0, .N .mv, [.n 3], none, 0⟩,
  ⟨1, .N .mv, [.l 0], none, 0⟩,
  ⟨2, .N .mv, [.n 5], some (.l 0, true), 0⟩,
  ⟨3, .N .mv, [.n 7], some (.l 1, true), 0⟩,
  ⟨4, .N (.bin .eql), [.l 1, .l 0], some (.l 2, true), 0⟩,
  ⟨5, .N .pick, [.l 3, .l 0, .c (.bool false)], none, 0⟩,
  ⟨6, .N .mv, [.l 0], none, 0⟩,
  ⟨7, .N (.loadN 2), [.n 4], some (.l 0, true), 0⟩,
  ⟨8, .N (.loadN 2), [.n 6], some (.l 1, true), 0⟩,
  ⟨9, .calli true (φ 3), [.l 1, .l 0], some (.l 2, true), 0⟩,
  ⟨10, .N .pick, [.l 3, .l 0, .c (.bool false)], none, 0⟩,
  ⟨11, .N .mv, [.l 0], none, 0⟩,
  ⟨12, .N .mv, [.n 5], some (.l 0, true), 0⟩,
  ⟨13, .N (.bin .neq), [.l 0, .c (.int .i64 0)], some (.l 1, true), 0⟩,
  ⟨14, .N .mv, [.l 0], some (.l 2, true), 0⟩,
  ⟨15, .N (.loadN 2), [.n 4], some (.l 0, false), 0⟩,
  ⟨16, .calli true (φ 4), [.l 0], some (.l 1, false), 0⟩,
  ⟨17, .N .pick, [.l 2, .c (.bool true), .l 0], some (.l 5, true), 0⟩,
  ⟨18, .N .pick, [.l 6, .l 0, .c (.bool false)], none, 0⟩,
  ⟨19, .N .mv, [.l 0], none, 0⟩] := Eq.trans rfl rfl
theorem isE_slc {v : AV} {l : List Ed} (h : IsE v l) (m : Nat) (hm : m ≤ l.length) : ∃ v', (∀ (k : IntKind) rd, nstep (.slc 2 false true false) [v, .int k (m : Int)] rd = some (.val v')) ∧ IsE v' (l.take m) := by
  obtain ⟨h1, h2, ⟨rfl, h3⟩ | rfl⟩ := h
  · have : l = [] := List.length_eq_zero_iff.1 h3
    subst this
    have : m = 0 := by simpa using hm
    subst this
    exact ⟨.nils, fun k rd => by rfl, isE_nil⟩
  · refine ⟨vE (l.take m), fun k rd => ?_, isE_v _⟩
    have hb : bounds3 l.length l.length false true false [.int k (m : Int)] = some (0, m, l.length) := by
      simp [bounds3, intArg, hm]
    rw [n_slcV, hb]
    simp only [Option.map_some, Bool.false_eq_true, false_and, if_false, Nat.zero_mul, List.drop_zero, Nat.sub_zero, vE, cE_take, List.length_take, Nat.min_eq_left hm]
theorem right_of {n : Int} {es : List Ed} (h0 : 0 ≤ n) (h1 : n ≤ 1000) (hl : es.length ≤ 4000) (hs : es.Pairwise ltE) (he : ∀ x ∈ es, 0 ≤ x.1 ∧ x.1 < x.2 ∧ x.2 < n) : rightE n es = true := by
  unfold rightE
  rw [Bool.and_eq_true, decide_eq_true_eq, List.all_eq_true]
  refine ⟨⟨h0, h1, hl⟩, fun i hi => ?_⟩
  have hi := List.mem_range.1 hi
  obtain ⟨e1, e2, e3⟩ := he _ (List.getElem_mem hi)
  simp only [stepE, List.getD_eq_getElem?_getD, List.getElem?_eq_getElem hi, Option.getD_some, Bool.and_eq_true, decide_eq_true_eq, Bool.or_eq_true, beq_iff_eq]
  refine ⟨⟨⟨e1, e2⟩, e3⟩, ?_⟩
  by_cases e : i = 0
  · exact .inl e
  · right
    have hi1 : i - 1 < es.length := by omega
    rw [List.getElem?_eq_getElem hi1, Option.getD_some]
    exact (cmpE_neg _ _).2 (List.pairwise_iff_getElem.1 hs (i - 1) i hi1 hi (by omega))
theorem setE_ends {n : Int} {l : List Ed} (h : l.all (okEnds n) = true) : ∀ x ∈ setE l, 0 ≤ x.1 ∧ x.1 < x.2 ∧ x.2 < n := by
  intro x hx
  rw [setE_mem, normsE_mem] at hx
  obtain ⟨y, hy, hne, rfl⟩ := hx
  have := List.all_eq_true.1 h y hy
  simp only [okEnds, Bool.and_eq_true, decide_eq_true_eq] at this
  simp only
  omega
theorem normalE_right {n : Int} {l : List Ed} (h : (normalE n l).2.2 = 0) : rightE (normalE n l).1 (normalE n l).2.1 = true := by
  have hd : normalE n l = if n < 0 then (0, [], 1) else if n > 1000 then (0, [], 5) else if l.all (okEnds n) then (if (setE l).length > 4000 then (0, [], 5) else (n, setE l, 0)) else (0, [], 4) := rfl
  rw [hd] at h ⊢
  by_cases h1 : n < 0
  · simp [h1] at h
  by_cases h2 : n > 1000
  · simp [h1, h2] at h
  by_cases h3 : l.all (okEnds n) = true
  · by_cases h4 : (setE l).length > 4000
    · simp only [h1, h2, h3, h4, if_true, if_false] at h; simp at h
    · simp only [h1, h2, h3, h4, if_true, if_false]
      exact right_of (by omega) (by omega) (by omega) (setE_strict l) (setE_ends h3)
  · simp only [h1, h2, h3, if_false] at h; simp at h
theorem normalE_len (n : Int) (l : List Ed) : (normalE n l).2.1.length ≤ 4000 := by
  unfold normalE
  split; · simp
  split; · simp
  split
  · split
    · simp
    · simp only; omega
  · simp
theorem w_GraphNormal (h : Has A (φ 5) (f5 φ)) (hS : PVal A (φ 0) [] (.bool true)) (g : GC A φ) (n : Int) (v : AV) (l : List Ed) (hv : IsE v l) :
    PVal A (φ 5) [.int .i64 n, v] (.bool true) := by
  have hsh := hS.eq
  have hlen := hv.len
  obtain ⟨v', s1, s2⟩ := isE_slc hv (min l.length 300) (by omega)
  have hmin := minV_i (l.length : Int) 300
  have hmm : min (l.length : Int) 300 = ((min l.length 300 : Nat) : Int) := by omega
  rw [hmm] at hmin
  have hl' : (l.take (min l.length 300)).length < 1000000000 := by simp; omega
  have hN := (g.normal n v' _ s2 hl').eq
  have hRN := (g.rnormal n v' _ s2 hl').eq
  have hlx := normalE_len n (l.take (min l.length 300))
  have hrx := @normalE_right n (l.take (min l.length 300))
  simp only [nR] at hN hRN
  generalize normalE n (l.take (min l.length 300)) = x at *
  have hE := isE_r x.2.1
  have hSG := (g.sameG x.1 x.1 _ _ x.2.1 x.2.1 hE hE (by omega)).eq
  have hRt := (g.right x.1 _ x.2.1 hE).eq
  have hone := hE.one
  have hcl := hE.closed
  have hcell := hE.cells
  refine pval_has h rfl ?_
  simp only [b5, f5]
  by_cases h0 : x.2.2 = 0
  · have hr := hrx h0
    simp [↓getD_z, ↓getD_s, -List.getD_eq_getElem?_getD, -Int.ofNat_toNat, -getElem?_pos, gz, ↓hid_k, ↓hid_o, ↓hid_q, ↓hid_v, ↓PO_nil, ↓PO_none, ↓PO_grd, ↓PD_nil, ↓PD_none, ↓PD_grd, ↓PDO_N, ↓PDO_X, ↓PDO_call, ↓PDO_calli, ↓PDO_callv, PDX_free, PDX_eq, ↓PStep_N, ↓PStep_X, ↓PStep_call, ↓PStep_calli, PStep_callv, ↓PC_skip, ↓PC_lab, ↓PC_ret, ↓PC_exit, ↓PC_reg, ↓PC_draw, ↓PC_seq, ↓PC_block, ↓PC_loop, ↓PC_scope, ↓PC_cond, ↓thenC_norm, ↓thenC_ret, ↓thenC_exit, ↓blockC_norm, ↓blockC_ret, ↓blockC_exit, ↓loopC_norm, ↓loopC_ret, ↓loopC_exit, ↓endR_ret, ↓endR_norm, resK_none, resK_t, resK_tt, KNO_val, KNO_new, KNO_ite, KNO_map, KXO_some, KXO_ite, KVA_t, KVA_f, KG_skip, KG_tt, KG_ff, KG_tf, KG_ft, KB_true, KB_false, KNOD_val, KNOD_new, KNOD_ite, n_mv, n_pick, n_bin, n_eqB, n_eqN, n_eqS, n_un, n_conv, n_fadd, n_faddV, n_fld1, n_fldN, n_idx, n_idxA, n_idxV, n_idxAV, n_ext, n_lenS, n_lenS0, n_lenV, n_lenT, n_lenA, n_min, n_max, n_build, n_mkfn, n_slc, n_slc0, n_slcV, n_slcA, n_load1, n_loadN, n_load1V, n_loadNV, n_alloc, n_box, n_bsl, n_mksl, n_nilcP, n_nilcV, n_nilcI, n_nilcF, x_store, x_clear0, x_clear, b_add, b_sub, b_mul, b_eql, b_neq, b_lss, b_leq, b_gtr, b_geq, b_and16, unV, ntouch, gather, hide, unhide, evalOpd, applyOuts, int_bne, int_beq, ite_bool, ite_int, one_bool, cells_bool, one_int, cells_int, one_str, cells_str, one_nilp, cells_nilp, one_ptr, cells_ptr, one_nils, cells_nils, one_sl, cells_sl, one_nilf, cells_nilf, one_fn, cells_fn, one_nili, cells_nili, one_mp, cells_mp, one_nilm, cells_nilm, one_iface, cells_iface, one_vs, cells_vs, one_vp, cells_vp, cells_agg, Nat.testBit, setAt_1, setAt_2, closeds_nil, closeds_cons, closed_bool, closed_int, closed_str, closed_nilp, closed_nils, closed_nilm, closed_nilf, closed_nili, closed_agg, closed_tup, closed_vs, closed_vp, closed_iface, closed_fn, closeds_cI, closeds_cE, viewA_closed, viewR_closed, AV.scal, AV.scal0, fillA, repA, part_bool, part_int, part_str, part_nilp, part_ptr, part_nils, part_sl, part_nilm, part_mp, part_nilf, part_fn, part_nili, part_iface, part_agg, part_vs, part_vp, viewA_sl1, vaSl_cells, wrap_0, wrap_1, wrap_2, wrap_m1, set_last, get_last, er5_0, er5_1, er5_2, er5_3, er5_4, er5_5, hsh, hlen, foldV, hmin, s1, nR, hN, hRN, hSG, hRt, hone, hcl, hcell, h0, hr, s2.closed, s2.one, resK, resVs, resV, pack]
  · simp [↓getD_z, ↓getD_s, -List.getD_eq_getElem?_getD, -Int.ofNat_toNat, -getElem?_pos, gz, ↓hid_k, ↓hid_o, ↓hid_q, ↓hid_v, ↓PO_nil, ↓PO_none, ↓PO_grd, ↓PD_nil, ↓PD_none, ↓PD_grd, ↓PDO_N, ↓PDO_X, ↓PDO_call, ↓PDO_calli, ↓PDO_callv, PDX_free, PDX_eq, ↓PStep_N, ↓PStep_X, ↓PStep_call, ↓PStep_calli, PStep_callv, ↓PC_skip, ↓PC_lab, ↓PC_ret, ↓PC_exit, ↓PC_reg, ↓PC_draw, ↓PC_seq, ↓PC_block, ↓PC_loop, ↓PC_scope, ↓PC_cond, ↓thenC_norm, ↓thenC_ret, ↓thenC_exit, ↓blockC_norm, ↓blockC_ret, ↓blockC_exit, ↓loopC_norm, ↓loopC_ret, ↓loopC_exit, ↓endR_ret, ↓endR_norm, resK_none, resK_t, resK_tt, KNO_val, KNO_new, KNO_ite, KNO_map, KXO_some, KXO_ite, KVA_t, KVA_f, KG_skip, KG_tt, KG_ff, KG_tf, KG_ft, KB_true, KB_false, KNOD_val, KNOD_new, KNOD_ite, n_mv, n_pick, n_bin, n_eqB, n_eqN, n_eqS, n_un, n_conv, n_fadd, n_faddV, n_fld1, n_fldN, n_idx, n_idxA, n_idxV, n_idxAV, n_ext, n_lenS, n_lenS0, n_lenV, n_lenT, n_lenA, n_min, n_max, n_build, n_mkfn, n_slc, n_slc0, n_slcV, n_slcA, n_load1, n_loadN, n_load1V, n_loadNV, n_alloc, n_box, n_bsl, n_mksl, n_nilcP, n_nilcV, n_nilcI, n_nilcF, x_store, x_clear0, x_clear, b_add, b_sub, b_mul, b_eql, b_neq, b_lss, b_leq, b_gtr, b_geq, b_and16, unV, ntouch, gather, hide, unhide, evalOpd, applyOuts, int_bne, int_beq, ite_bool, ite_int, one_bool, cells_bool, one_int, cells_int, one_str, cells_str, one_nilp, cells_nilp, one_ptr, cells_ptr, one_nils, cells_nils, one_sl, cells_sl, one_nilf, cells_nilf, one_fn, cells_fn, one_nili, cells_nili, one_mp, cells_mp, one_nilm, cells_nilm, one_iface, cells_iface, one_vs, cells_vs, one_vp, cells_vp, cells_agg, Nat.testBit, setAt_1, setAt_2, closeds_nil, closeds_cons, closed_bool, closed_int, closed_str, closed_nilp, closed_nils, closed_nilm, closed_nilf, closed_nili, closed_agg, closed_tup, closed_vs, closed_vp, closed_iface, closed_fn, closeds_cI, closeds_cE, viewA_closed, viewR_closed, AV.scal, AV.scal0, fillA, repA, part_bool, part_int, part_str, part_nilp, part_ptr, part_nils, part_sl, part_nilm, part_mp, part_nilf, part_fn, part_nili, part_iface, part_agg, part_vs, part_vp, viewA_sl1, vaSl_cells, wrap_0, wrap_1, wrap_2, wrap_m1, set_last, get_last, er5_0, er5_1, er5_2, er5_3, er5_4, er5_5, hsh, hlen, foldV, hmin, s1, nR, hN, hRN, hSG, hRt, hone, hcl, hcell, h0, s2.closed, s2.one, resK, resVs, resV, pack]
end Go.Ai.G
/- GraphRight. -/
namespace Go.Ai.G
open Go.Ai
set_option maxRecDepth 100000
set_option linter.unusedSimpArgs false
set_option linter.unusedVariables false
variable {A : AProg} {φ : Nat → Nat}
theorem er14_0 (φ : Nat → Nat) : r14_0 φ = [
  ⟨0, .N .box, [.n 0], none, 0⟩,
  ⟨1, .N .mv, [.c (.bool false)], none, 0⟩] := Eq.trans rfl rfl
theorem er14_1 (φ : Nat → Nat) : r14_1 φ = [
  ⟨0, .calli true (φ 0), [], none, 0⟩,
  ⟨1, .N .mv, [.l 0], none, 0⟩] := Eq.trans rfl rfl
theorem er14_2 (φ : Nat → Nat) : r14_2 φ = [
  ⟨0, .N (.bsl [.int .i64 0, .int .i64 0] 0 2 []), [], none, 0⟩,
  ⟨1, .N (.fadd 1), [.n 3], none, 0⟩,
  ⟨2, .N .load1, [.l 0], none, 0⟩,
  ⟨3, .N (.fadd 1), [.n 3], none, 0⟩,
  ⟨4, .N .load1, [.l 0], none, 0⟩,
  ⟨5, .N .lenS, [.l 0], none, 0⟩,
  ⟨6, .N .min, [.l 0, .c (.int .i64 500)], none, 0⟩,
  ⟨7, .N (.slc 2 false true false), [.l 4, .l 0], none, 0⟩,
  ⟨8, .X (.app 2 16), [.l 7, .l 0], none, 0⟩,
  ⟨9, .N (.fadd 1), [.n 3], none, 0⟩,
  ⟨10, .X (.store 1), [.l 0, .l 1], none, 0⟩] := Eq.trans rfl rfl
theorem er14_3 (φ : Nat → Nat) : r14_3 φ = [
  ⟨0, .N .mv, [.n 5], none, 0⟩,
  ⟨1, .N .mv, [.l 0], none, 1⟩,
  ⟨2, .N (.loadN 2), [.n 3], some (.l 0, true), 3⟩,
  ⟨4, .N (.loadN 2), [.n 3], some (.l 1, true), 3⟩,
  ⟨3, .calli true (φ 4), [.l 1], some (.l 2, true), 7⟩,
  ⟨5, .calli true (φ 6), [.l 1], some (.l 3, true), 31⟩,
  ⟨6, .N (.eqB false), [.l 1, .l 0], some (.l 4, true), 63⟩,
  ⟨7, .N .pick, [.l 5, .l 0, .c (.bool false)], none, 127⟩,
  ⟨8, .N .mv, [.l 0], none, 255⟩,
  ⟨9, .N (.loadN 2), [.n 3], some (.l 0, true), 511⟩,
  ⟨10, .N .mv, [.n 1], some (.l 1, true), 511⟩,
  ⟨11, .N .mv, [.n 2], some (.l 2, true), 511⟩,
  ⟨13, .N (.loadN 2), [.n 3], some (.l 3, true), 511⟩,
  ⟨14, .N .mv, [.n 1], some (.l 4, true), 511⟩,
  ⟨15, .N .mv, [.n 2], some (.l 5, true), 511⟩,
  ⟨12, .calli true (φ 7), [.l 5, .l 4, .l 3], some (.l 6, true), 4095⟩,
  ⟨16, .calli true (φ 8), [.l 3, .l 2, .l 1], some (.l 7, true), 65535⟩,
  ⟨17, .N (.eqB false), [.l 1, .l 0], some (.l 8, true), 131071⟩,
  ⟨18, .N .pick, [.l 9, .l 0, .c (.bool false)], none, 262143⟩,
  ⟨19, .N .mv, [.l 0], none, 524287⟩,
  ⟨20, .N (.loadN 2), [.n 3], some (.l 0, true), 1048575⟩,
  ⟨21, .N .mv, [.n 1], some (.l 1, true), 1048575⟩,
  ⟨23, .N (.loadN 2), [.n 3], some (.l 2, true), 1048575⟩,
  ⟨24, .N .mv, [.n 1], some (.l 3, true), 1048575⟩,
  ⟨22, .calli false (φ 9), [.l 3, .l 2], some (.l 4, true), 4194303⟩,
  ⟨25, .calli false (φ 10), [.l 2, .l 1], some (.l 5, true), 33554431⟩,
  ⟨26, .calli true (φ 11), [.l 1, .l 0], some (.l 6, true), 67108863⟩,
  ⟨27, .N .pick, [.l 7, .l 0, .c (.bool false)], none, 134217727⟩,
  ⟨28, .N .mv, [.l 0], none, 268435455⟩,
  ⟨29, .N (.loadN 2), [.n 3], some (.l 0, true), 536870911⟩,
  ⟨31, .N (.loadN 2), [.n 3], some (.l 1, true), 536870911⟩,
  ⟨30, .calli false (φ 12), [.l 1], some (.l 2, true), 1073741823⟩,
  ⟨32, .calli false (φ 13), [.l 1], some (.l 3, true), 4294967295⟩,
  ⟨33, .calli true (φ 11), [.l 1, .l 0], some (.l 4, true), 8589934591⟩,
  ⟨34, .N .pick, [.l 5, .l 0, .c (.bool false)], none, 17179869183⟩,
  ⟨35, .N .mv, [.l 0], none, 34359738367⟩] := Eq.trans rfl rfl
/-- A graph's edges, at most so many, laid anew and one's own: what a law does with the graph that it is handed. -/
theorem cut_own (n : Int) (v : AV) (l : List Ed) (hv : IsE v l) (k : Nat) (hk : k ≤ 1000000) : ∃ v' o H', (∀ (i : IntKind) rd, nstep (.slc 2 false true false) [v, .int i ((min l.length k : Nat) : Int)] rd = some (.val v')) ∧
    xstep (.app 2 16) [.sl 1 0 0 0 2 0 true, v'] [.cells 0 false [.int .i64 n, v], .cells 0 false []] = some (o, H') ∧ OwnE false 1 H' o (l.take k) ∧ H'[0]? = some (.cells 0 false [.int .i64 n, v]) ∧ blkOf o ≠ some 0 := by
  obtain ⟨v', s1, s2⟩ := isE_slc hv (min l.length k) (by omega)
  have e : l.take (min l.length k) = l.take k := by
    rcases Nat.le_total l.length k with h | h
    · rw [Nat.min_eq_left h, List.take_of_length_le h, List.take_of_length_le (Nat.le_refl _)]
    · rw [Nat.min_eq_right h]
  rw [e] at s2
  have h0 : Own false 1 ([.cells 0 false [.int .i64 n, v], .cells 0 false []] : Heap) (.sl 1 0 0 0 2 0 true) 2 0 [] := .inl ⟨rfl, rfl, 1, 0, 0, rfl⟩
  obtain ⟨o, H', x1, x2, x3, x4, x5⟩ := Own.app (bytes := 16) h0 (s2.src _) (cellsE_length _) (ones_cE _) (by simp) (by simp; omega)
  refine ⟨v', o, H', s1, x1, by simpa [OwnE, List.length_take, Nat.min_comm] using x2, ?_, fun h => ?_⟩
  · rw [x3 0 (by simp) (by simp [blkOf])]; rfl
  · rcases x5 0 h with h1 | h1
    · simp [blkOf] at h1
    · simp at h1
theorem frz_keep {H : Heap} {o : AV} {b : Nat} {x : Option Ob} (hb : blkOf o ≠ some b) (h : H[b]? = x) : (frzOf H o)[b]? = x := (frzOf_get H o hb).trans h
theorem w_GraphRight (h : Has A (φ 14) (f14 φ)) (hS : PVal A (φ 0) [] (.bool true)) (g : GC A φ) (n : Int) (v : AV) (l : List Ed) (hv : IsE v l) (a b : Int) :
    PVal A (φ 14) [gV n v, .int .i64 a, .int .i64 b] (.bool true) := by
  have hsh := hS.eq
  have hlen := hv.len
  have hone := hv.one
  have hcl := hv.closed
  obtain ⟨v', o, H', s1, x1, x2, e0, ho⟩ := cut_own n v l hv 500 (by omega)
  have hmin := minV_i (l.length : Int) 500
  have hmm : min (l.length : Int) 500 = ((min l.length 500 : Nat) : Int) := by omega
  rw [hmm] at hmin
  have hL : (l.take 500).length ≤ 500 := by simp; omega
  generalize l.take 500 = es at *
  have hset : (H'.set 0 (.cells 0 false [.int .i64 n, o]))[0]? = some (.cells 0 false [.int .i64 n, o]) := List.getElem?_set_self (lt_of_get e0)
  have hw : Vw false (H'.set 0 (.cells 0 false [.int .i64 n, o])) o 2 es.length (cellsE es) := Own.vw (Own.keep x2 fun b hb hbe => List.getElem?_set_ne (by have := (Own.blk x2 hbe).1; omega))
  have hset0 : setAt [.int .i64 n, v] 1 [o] = [.int .i64 n, o] := rfl
  have hoc := hw.cells
  have hoo := hw.one
  have hc := closeds_cE es
  have hIs : IsE (rv false es.length 2 (cellsE es)) es := is_rv (cellsE_length es) hc
  have hF0 := frz_keep ho hset
  have va1 := hw.g1 hc n
  have va2 := hw.g2 hc n
  have va3 := hw.g3 hc n
  obtain ⟨f1, f2, _⟩ := hw.frz
  have vb1 := f1.g1 hc n
  have vb2 := f1.g2 hc n
  have vb3 := f1.g3 hc n
  rw [f2] at vb1 vb2 vb3
  generalize hH2 : H'.set 0 (.cells 0 false [.int .i64 n, o]) = H2 at *
  generalize frzOf H2 o = F at *
  have c1 := (g.right n _ es hIs).eq
  have c2 := (g.rright n _ es hIs).eq
  have c3 := (g.has n a b _ es hIs).eq
  have c4 := (g.rhas n a b _ es hIs).eq
  have c5 := (g.near n a _ es hIs).eq
  have c6 := (g.rnear n a _ es hIs).eq
  have c7 := (g.degrees n _ es hIs).eq
  have c8 := (g.rdegrees n _ es hIs).eq
  have hnl : (if rightE n es = true then sortI (nbR a es) else []).length < 1000000000000 := by
    split
    · rw [sortI_len]; have := nbR_len a es; omega
    · simp
  have c9 := (g.same _ _ _ _ (isI_r (if rightE n es = true then sortI (nbR a es) else [])) (isI_v (if rightE n es = true then sortI (nbR a es) else [])) hnl).eq
  generalize (if rightE n es = true then sortI (nbR a es) else []) = nb at *
  have n1 := (isI_r nb).closed
  have n2 := (isI_v nb).closed
  have n3 := (isI_r nb).one
  refine pval_has h rfl ?_
  simp only [b14, f14]
  by_cases hR : rightE n es = true
  · have hn := right_len hR
    have hdl : (degs n es).length < 1000000000000 := by simp [degs]; omega
    have c10 := (g.same _ _ _ _ (isI_v (degs n es)) (isI_v (degs n es)) hdl).eq
    have d1 := (isI_v (degs n es)).closed
    simp [hR] at c1 c2 c7 c8
    simp [↓getD_z, ↓getD_s, -List.getD_eq_getElem?_getD, -Int.ofNat_toNat, -getElem?_pos, gz, ↓hid_k, ↓hid_o, ↓hid_q, ↓hid_v, ↓PO_nil, ↓PO_none, ↓PO_grd, ↓PD_nil, ↓PD_none, ↓PD_grd, ↓PDO_N, ↓PDO_X, ↓PDO_call, ↓PDO_calli, ↓PDO_callv, PDX_free, PDX_eq, ↓PStep_N, ↓PStep_X, ↓PStep_call, ↓PStep_calli, PStep_callv, ↓PC_skip, ↓PC_lab, ↓PC_ret, ↓PC_exit, ↓PC_reg, ↓PC_draw, ↓PC_seq, ↓PC_block, ↓PC_loop, ↓PC_scope, ↓PC_cond, ↓thenC_norm, ↓thenC_ret, ↓thenC_exit, ↓blockC_norm, ↓blockC_ret, ↓blockC_exit, ↓loopC_norm, ↓loopC_ret, ↓loopC_exit, ↓endR_ret, ↓endR_norm, resK_none, resK_t, resK_tt, KNO_val, KNO_new, KNO_ite, KNO_map, KXO_some, KXO_ite, KVA_t, KVA_f, KG_skip, KG_tt, KG_ff, KG_tf, KG_ft, KB_true, KB_false, KNOD_val, KNOD_new, KNOD_ite, n_mv, n_pick, n_bin, n_eqB, n_eqN, n_eqS, n_un, n_conv, n_fadd, n_faddV, n_fld1, n_fldN, n_idx, n_idxA, n_idxV, n_idxAV, n_ext, n_lenS, n_lenS0, n_lenV, n_lenT, n_lenA, n_min, n_max, n_build, n_mkfn, n_slc, n_slc0, n_slcV, n_slcA, n_load1, n_loadN, n_load1V, n_loadNV, n_alloc, n_box, n_bsl, n_mksl, n_nilcP, n_nilcV, n_nilcI, n_nilcF, x_store, x_clear0, x_clear, b_add, b_sub, b_mul, b_eql, b_neq, b_lss, b_leq, b_gtr, b_geq, b_and16, unV, ntouch, gather, hide, unhide, evalOpd, applyOuts, int_bne, int_beq, ite_bool, ite_int, one_bool, cells_bool, one_int, cells_int, one_str, cells_str, one_nilp, cells_nilp, one_ptr, cells_ptr, one_nils, cells_nils, one_sl, cells_sl, one_nilf, cells_nilf, one_fn, cells_fn, one_nili, cells_nili, one_mp, cells_mp, one_nilm, cells_nilm, one_iface, cells_iface, one_vs, cells_vs, one_vp, cells_vp, cells_agg, Nat.testBit, setAt_1, setAt_2, closeds_nil, closeds_cons, closed_bool, closed_int, closed_str, closed_nilp, closed_nils, closed_nilm, closed_nilf, closed_nili, closed_agg, closed_tup, closed_vs, closed_vp, closed_iface, closed_fn, closeds_cI, closeds_cE, viewA_closed, viewR_closed, AV.scal, AV.scal0, fillA, repA, part_bool, part_int, part_str, part_nilp, part_ptr, part_nils, part_sl, part_nilm, part_mp, part_nilf, part_fn, part_nili, part_iface, part_agg, part_vs, part_vp, viewA_sl1, vaSl_cells, wrap_0, wrap_1, wrap_2, wrap_m1, set_last, get_last, er14_0, er14_1, er14_2, er14_3, hsh, hlen, hone, hcl, foldV, hmin, s1, x1, e0, hset0, hH2, hoc, hoo, hset, hF0, va1, va2, va3, vb1, vb2, vb3, c1, c2, c3, c4, c5, c6, c7, c8, c9, c10, n1, n2, n3, d1, resK, resVs, resV, pack]
  · simp only [Bool.not_eq_true] at hR
    have c10 := (g.same _ _ _ _ isI_nil (isI_v []) (by simp)).eq
    simp [hR] at c1 c2 c7 c8
    simp [↓getD_z, ↓getD_s, -List.getD_eq_getElem?_getD, -Int.ofNat_toNat, -getElem?_pos, gz, ↓hid_k, ↓hid_o, ↓hid_q, ↓hid_v, ↓PO_nil, ↓PO_none, ↓PO_grd, ↓PD_nil, ↓PD_none, ↓PD_grd, ↓PDO_N, ↓PDO_X, ↓PDO_call, ↓PDO_calli, ↓PDO_callv, PDX_free, PDX_eq, ↓PStep_N, ↓PStep_X, ↓PStep_call, ↓PStep_calli, PStep_callv, ↓PC_skip, ↓PC_lab, ↓PC_ret, ↓PC_exit, ↓PC_reg, ↓PC_draw, ↓PC_seq, ↓PC_block, ↓PC_loop, ↓PC_scope, ↓PC_cond, ↓thenC_norm, ↓thenC_ret, ↓thenC_exit, ↓blockC_norm, ↓blockC_ret, ↓blockC_exit, ↓loopC_norm, ↓loopC_ret, ↓loopC_exit, ↓endR_ret, ↓endR_norm, resK_none, resK_t, resK_tt, KNO_val, KNO_new, KNO_ite, KNO_map, KXO_some, KXO_ite, KVA_t, KVA_f, KG_skip, KG_tt, KG_ff, KG_tf, KG_ft, KB_true, KB_false, KNOD_val, KNOD_new, KNOD_ite, n_mv, n_pick, n_bin, n_eqB, n_eqN, n_eqS, n_un, n_conv, n_fadd, n_faddV, n_fld1, n_fldN, n_idx, n_idxA, n_idxV, n_idxAV, n_ext, n_lenS, n_lenS0, n_lenV, n_lenT, n_lenA, n_min, n_max, n_build, n_mkfn, n_slc, n_slc0, n_slcV, n_slcA, n_load1, n_loadN, n_load1V, n_loadNV, n_alloc, n_box, n_bsl, n_mksl, n_nilcP, n_nilcV, n_nilcI, n_nilcF, x_store, x_clear0, x_clear, b_add, b_sub, b_mul, b_eql, b_neq, b_lss, b_leq, b_gtr, b_geq, b_and16, unV, ntouch, gather, hide, unhide, evalOpd, applyOuts, int_bne, int_beq, ite_bool, ite_int, one_bool, cells_bool, one_int, cells_int, one_str, cells_str, one_nilp, cells_nilp, one_ptr, cells_ptr, one_nils, cells_nils, one_sl, cells_sl, one_nilf, cells_nilf, one_fn, cells_fn, one_nili, cells_nili, one_mp, cells_mp, one_nilm, cells_nilm, one_iface, cells_iface, one_vs, cells_vs, one_vp, cells_vp, cells_agg, Nat.testBit, setAt_1, setAt_2, closeds_nil, closeds_cons, closed_bool, closed_int, closed_str, closed_nilp, closed_nils, closed_nilm, closed_nilf, closed_nili, closed_agg, closed_tup, closed_vs, closed_vp, closed_iface, closed_fn, closeds_cI, closeds_cE, viewA_closed, viewR_closed, AV.scal, AV.scal0, fillA, repA, part_bool, part_int, part_str, part_nilp, part_ptr, part_nils, part_sl, part_nilm, part_mp, part_nilf, part_fn, part_nili, part_iface, part_agg, part_vs, part_vp, viewA_sl1, vaSl_cells, wrap_0, wrap_1, wrap_2, wrap_m1, set_last, get_last, er14_0, er14_1, er14_2, er14_3, hsh, hlen, hone, hcl, foldV, hmin, s1, x1, e0, hset0, hH2, hoc, hoo, hset, hF0, va1, va2, va3, vb1, vb2, vb3, c1, c2, c3, c4, c5, c6, c7, c8, c9, c10, n1, n2, n3, resK, resVs, resV, pack]
end Go.Ai.G
/- GraphAdds. -/
namespace Go.Ai.G
open Go.Ai
set_option maxRecDepth 100000
set_option linter.unusedSimpArgs false
set_option linter.unusedVariables false
variable {A : AProg} {φ : Nat → Nat}
theorem er19_0 (φ : Nat → Nat) : r19_0 φ = [
  ⟨0, .N .box, [.n 0], none, 0⟩,
  ⟨1, .N .mv, [.c (.bool false)], none, 0⟩] := Eq.trans rfl rfl
theorem er19_1 (φ : Nat → Nat) : r19_1 φ = [
  ⟨0, .calli true (φ 0), [], none, 0⟩,
  ⟨1, .N .mv, [.l 0], none, 0⟩] := Eq.trans rfl rfl
theorem er19_2 (φ : Nat → Nat) : r19_2 φ = [
  ⟨0, .N (.bsl [.int .i64 0, .int .i64 0] 0 2 []), [], none, 0⟩,
  ⟨1, .N (.fadd 1), [.n 3], none, 0⟩,
  ⟨2, .N .load1, [.l 0], none, 0⟩,
  ⟨3, .N (.fadd 1), [.n 3], none, 0⟩,
  ⟨4, .N .load1, [.l 0], none, 0⟩,
  ⟨5, .N .lenS, [.l 0], none, 0⟩,
  ⟨6, .N .min, [.l 0, .c (.int .i64 500)], none, 0⟩,
  ⟨7, .N (.slc 2 false true false), [.l 4, .l 0], none, 0⟩,
  ⟨8, .X (.app 2 16), [.l 7, .l 0], none, 0⟩,
  ⟨9, .N (.fadd 1), [.n 3], none, 0⟩,
  ⟨10, .X (.store 1), [.l 0, .l 1], none, 0⟩] := Eq.trans rfl rfl
theorem er19_3 (φ : Nat → Nat) : r19_3 φ = [
  ⟨0, .N (.loadN 2), [.n 3], none, 0⟩,
  ⟨1, .N .mv, [.n 1], none, 0⟩,
  ⟨2, .N .mv, [.n 2], none, 0⟩,
  ⟨3, .calli false (φ 15), [.l 2, .l 1, .l 0], none, 0⟩,
  ⟨4, .N .mv, [.l 0], none, 0⟩,
  ⟨5, .N (.ext 0), [.l 0], none, 0⟩,
  ⟨6, .N (.ext 1), [.l 1], none, 0⟩,
  ⟨7, .N (.alloc [.int .i64 0, .nils]), [], none, 0⟩,
  ⟨8, .X (.store 2), [.l 0, .l 2], none, 0⟩,
  ⟨9, .N .mv, [.l 2], none, 0⟩] := Eq.trans rfl rfl
theorem er19_4 (φ : Nat → Nat) : r19_4 φ = [
  ⟨0, .N (.loadN 2), [.n 3], none, 0⟩,
  ⟨1, .N .mv, [.n 1], none, 0⟩,
  ⟨2, .N .mv, [.n 2], none, 0⟩,
  ⟨3, .calli false (φ 16), [.l 2, .l 1, .l 0], none, 0⟩,
  ⟨4, .N .mv, [.l 0], none, 0⟩,
  ⟨5, .N (.ext 0), [.l 0], none, 0⟩,
  ⟨6, .N (.ext 1), [.l 1], none, 0⟩,
  ⟨7, .N (.alloc [.int .i64 0, .nils]), [], none, 0⟩,
  ⟨8, .X (.store 2), [.l 0, .l 2], none, 0⟩,
  ⟨9, .N .mv, [.l 2], none, 0⟩] := Eq.trans rfl rfl
theorem er19_5 (φ : Nat → Nat) : r19_5 φ = [
  ⟨0, .N (.loadN 2), [.n 3], none, 0⟩,
  ⟨1, .N .mv, [.n 1], none, 0⟩,
  ⟨2, .N .mv, [.n 2], none, 0⟩,
  ⟨3, .calli false (φ 17), [.l 2, .l 1, .l 0], none, 0⟩,
  ⟨4, .N .mv, [.l 0], none, 0⟩,
  ⟨5, .N (.ext 0), [.l 0], none, 0⟩,
  ⟨6, .N (.ext 1), [.l 1], none, 0⟩,
  ⟨7, .N (.alloc [.int .i64 0, .nils]), [], none, 0⟩,
  ⟨8, .X (.store 2), [.l 0, .l 2], none, 0⟩,
  ⟨9, .N .mv, [.l 2], none, 0⟩] := Eq.trans rfl rfl
theorem er19_6 (φ : Nat → Nat) : r19_6 φ = [
  ⟨0, .N (.loadN 2), [.n 3], none, 0⟩,
  ⟨1, .N .mv, [.n 1], none, 0⟩,
  ⟨2, .N .mv, [.n 2], none, 0⟩,
  ⟨3, .calli false (φ 18), [.l 2, .l 1, .l 0], none, 0⟩,
  ⟨4, .N .mv, [.l 0], none, 0⟩,
  ⟨5, .N (.ext 0), [.l 0], none, 0⟩,
  ⟨6, .N (.ext 1), [.l 1], none, 0⟩,
  ⟨7, .N (.alloc [.int .i64 0, .nils]), [], none, 0⟩,
  ⟨8, .X (.store 2), [.l 0, .l 2], none, 0⟩,
  ⟨9, .N .mv, [.l 2], none, 0⟩] := Eq.trans rfl rfl
theorem er19_7 (φ : Nat → Nat) : r19_7 φ = [
  ⟨0, .N .mv, [.n 5], none, 0⟩,
  ⟨1, .N .mv, [.l 0], none, 0⟩,
  ⟨2, .N .mv, [.n 7], some (.l 0, true), 0⟩,
  ⟨3, .N .mv, [.n 9], some (.l 1, true), 0⟩,
  ⟨4, .N (.bin .eql), [.l 1, .l 0], some (.l 2, true), 0⟩,
  ⟨5, .N .pick, [.l 3, .l 0, .c (.bool false)], none, 0⟩,
  ⟨6, .N .mv, [.l 0], none, 0⟩,
  ⟨7, .N .mv, [.n 11], some (.l 0, true), 0⟩,
  ⟨8, .N .mv, [.n 13], some (.l 1, true), 0⟩,
  ⟨9, .N (.bin .eql), [.l 1, .l 0], some (.l 2, true), 0⟩,
  ⟨10, .N .pick, [.l 3, .l 0, .c (.bool false)], none, 0⟩,
  ⟨11, .N .mv, [.l 0], none, 0⟩,
  ⟨12, .N (.loadN 2), [.n 6], some (.l 0, true), 0⟩,
  ⟨13, .N (.loadN 2), [.n 8], some (.l 1, true), 0⟩,
  ⟨14, .calli true (φ 3), [.l 1, .l 0], some (.l 2, true), 0⟩,
  ⟨15, .N .pick, [.l 3, .l 0, .c (.bool false)], none, 0⟩,
  ⟨16, .N .mv, [.l 0], none, 0⟩,
  ⟨17, .N (.loadN 2), [.n 10], some (.l 0, true), 0⟩,
  ⟨18, .N (.loadN 2), [.n 12], some (.l 1, true), 0⟩,
  ⟨19, .calli true (φ 3), [.l 1, .l 0], some (.l 2, true), 0⟩,
  ⟨20, .N .pick, [.l 3, .l 0, .c (.bool false)], none, 0⟩,
  ⟨21, .N .mv, [.l 0], none, 0⟩] := Eq.trans rfl rfl
theorem frz_more {F : Heap} {o : AV} (h : frzOf F o = F) (hb : ∀ b, blkOf o = some b → b < F.length) (J : Heap) : frzOf (F ++ J) o = F ++ J := by
  unfold frzOf at h ⊢
  cases hbo : blkOf o with
  | none => rfl
  | some b =>
    rw [hbo] at h
    have hlt := hb b hbo
    simp only [frzH] at h ⊢
    rw [List.getElem?_append_left hlt]
    cases hx : F[b]? with
    | none => rfl
    | some x =>
      rw [hx] at h
      cases x with
      | cells gg ro c =>
        cases ro with
        | true => rfl
        | false =>
          simp only at h
          have : F[b]? = some (.cells gg true c) := by rw [← h]; exact List.getElem?_set_self hlt
          rw [this] at hx; cases hx
      | _ => rfl
theorem get_at (F J : Heap) (k : Nat) : (F ++ J)[F.length + k]? = J[k]? := by rw [List.getElem?_append_right (by omega)]; congr 1; omega
theorem get_at0 (F J : Heap) : (F ++ J)[F.length]? = J[0]? := get_at F J 0
theorem set_at (F J : Heap) (k : Nat) (x : Ob) : (F ++ J).set (F.length + k) x = F ++ J.set k x := by rw [List.set_append_right _ _ (by omega)]; congr 2; omega
theorem set_at0 (F J : Heap) (x : Ob) : (F ++ J).set F.length x = F ++ J.set 0 x := set_at F J 0 x
theorem addE_len (n : Int) (es : List Ed) (a b : Int) : (addE n es a b).2.1.length ≤ 4000 := by
  rw [addE_def]
  split; · simp
  split; · simp
  split; · simp
  exact normalE_len _ _
theorem withoutE_len (n : Int) (es : List Ed) (a b : Int) : (withoutE n es a b).2.1.length ≤ es.length := by
  unfold withoutE
  split; · simp
  split
  · simp only [List.length_erase]; split <;> omega
  · simp
theorem w_GraphAdds (h : Has A (φ 19) (f19 φ)) (hS : PVal A (φ 0) [] (.bool true)) (g : GC A φ) (n : Int) (v : AV) (l : List Ed) (hv : IsE v l) (a b : Int) :
    PVal A (φ 19) [gV n v, .int .i64 a, .int .i64 b] (.bool true) := by
  have hsh := hS.eq
  have hlen := hv.len
  have hone := hv.one
  have hcl := hv.closed
  obtain ⟨v', o, H', s1, x1, x2, e0, ho⟩ := cut_own n v l hv 500 (by omega)
  have hmin := minV_i (l.length : Int) 500
  have hmm : min (l.length : Int) 500 = ((min l.length 500 : Nat) : Int) := by omega
  rw [hmm] at hmin
  have hL : (l.take 500).length ≤ 500 := by simp; omega
  generalize l.take 500 = es at *
  have hset : (H'.set 0 (.cells 0 false [.int .i64 n, o]))[0]? = some (.cells 0 false [.int .i64 n, o]) := List.getElem?_set_self (lt_of_get e0)
  have hown : OwnE false 1 (H'.set 0 (.cells 0 false [.int .i64 n, o])) o es := Own.keep x2 fun b hb hbe => List.getElem?_set_ne (by have := (Own.blk x2 hbe).1; omega)
  have hw : Vw false (H'.set 0 (.cells 0 false [.int .i64 n, o])) o 2 es.length (cellsE es) := Own.vw hown
  have hset0 : setAt [.int .i64 n, v] 1 [o] = [.int .i64 n, o] := rfl
  have hoc := hw.cells
  have hoo := hw.one
  have hc := closeds_cE es
  have hIs : IsE (rv false es.length 2 (cellsE es)) es := is_rv (cellsE_length es) hc
  have hF0 := frz_keep ho hset
  have va3 := hw.g3 hc n
  obtain ⟨f1, f2, _⟩ := hw.frz
  have hbl : ∀ b, blkOf o = some b → b < (frzOf (H'.set 0 (.cells 0 false [.int .i64 n, o])) o).length := fun b hb => by rw [frzOf_len]; exact (Own.blk hown hb).2
  generalize hH2 : H'.set 0 (.cells 0 false [.int .i64 n, o]) = H2 at *
  generalize frzOf H2 o = F at *
  have gA0 : ∀ J, (F ++ J)[0]? = some (.cells 0 false [.int .i64 n, o]) := fun J => get_more J hF0
  have vaJ : ∀ (J : Heap) (x y : AV), x.closed = true → y.closed = true → viewA (F ++ J) [.agg [.int .i64 n, o], x, y] = some ([.agg [.int .i64 n, rv false es.length 2 (cellsE es)], x, y], F ++ J) := by
    intro J x y hx hy
    have := (f1.keep (H' := F ++ J) fun b hb => List.getElem?_append_left (hbl b hb)).g3 hc n x y hx hy
    rwa [frz_more f2 hbl J] at this
  have c1 := (g.add n a b _ es hIs).eq
  have c2 := (g.radd n a b _ es hIs).eq
  have c3 := (g.without n a b _ es hIs).eq
  have c4 := (g.rwithout n a b _ es hIs).eq
  have hl1 := addE_len n es a b
  have hl2 := withoutE_len n es a b
  generalize addE n es a b = x at *
  generalize withoutE n es a b = y at *
  have i1 := isE_r x.2.1
  have i2 : IsE (rv (decide (y.2.2 ≠ 0)) y.2.1.length 2 (cellsE y.2.1)) y.2.1 := is_rv (cellsE_length _) (closeds_cE _)
  have i3 := isE_r y.2.1
  have c5 := (g.sameG x.1 x.1 _ _ _ _ i1 i1 (by omega)).eq
  have c6 := (g.sameG y.1 y.1 _ _ _ _ i2 i3 (by omega)).eq
  simp only [gR, gW] at c1 c2 c3 c4
  generalize rE x.2.1 = u1 at *
  generalize rv (decide (y.2.2 ≠ 0)) y.2.1.length 2 (cellsE y.2.1) = u2 at *
  generalize rE y.2.1 = u3 at *
  refine pval_has h rfl ?_
  simp only [b19, f19]
  simp [↓getD_z, ↓getD_s, -List.getD_eq_getElem?_getD, -Int.ofNat_toNat, -getElem?_pos, gz, ↓hid_k, ↓hid_o, ↓hid_q, ↓hid_v, ↓PO_nil, ↓PO_none, ↓PO_grd, ↓PD_nil, ↓PD_none, ↓PD_grd, ↓PDO_N, ↓PDO_X, ↓PDO_call, ↓PDO_calli, ↓PDO_callv, PDX_free, PDX_eq, ↓PStep_N, ↓PStep_X, ↓PStep_call, ↓PStep_calli, PStep_callv, ↓PC_skip, ↓PC_lab, ↓PC_ret, ↓PC_exit, ↓PC_reg, ↓PC_draw, ↓PC_seq, ↓PC_block, ↓PC_loop, ↓PC_scope, ↓PC_cond, ↓thenC_norm, ↓thenC_ret, ↓thenC_exit, ↓blockC_norm, ↓blockC_ret, ↓blockC_exit, ↓loopC_norm, ↓loopC_ret, ↓loopC_exit, ↓endR_ret, ↓endR_norm, resK_none, resK_t, resK_tt, KNO_val, KNO_new, KNO_ite, KNO_map, KXO_some, KXO_ite, KVA_t, KVA_f, KG_skip, KG_tt, KG_ff, KG_tf, KG_ft, KB_true, KB_false, KNOD_val, KNOD_new, KNOD_ite, n_mv, n_pick, n_bin, n_eqB, n_eqN, n_eqS, n_un, n_conv, n_fadd, n_faddV, n_fld1, n_fldN, n_idx, n_idxA, n_idxV, n_idxAV, n_ext, n_lenS, n_lenS0, n_lenV, n_lenT, n_lenA, n_min, n_max, n_build, n_mkfn, n_slc, n_slc0, n_slcV, n_slcA, n_load1, n_loadN, n_load1V, n_loadNV, n_alloc, n_box, n_bsl, n_mksl, n_nilcP, n_nilcV, n_nilcI, n_nilcF, x_store, x_clear0, x_clear, b_add, b_sub, b_mul, b_eql, b_neq, b_lss, b_leq, b_gtr, b_geq, b_and16, unV, ntouch, gather, hide, unhide, evalOpd, applyOuts, int_bne, int_beq, ite_bool, ite_int, one_bool, cells_bool, one_int, cells_int, one_str, cells_str, one_nilp, cells_nilp, one_ptr, cells_ptr, one_nils, cells_nils, one_sl, cells_sl, one_nilf, cells_nilf, one_fn, cells_fn, one_nili, cells_nili, one_mp, cells_mp, one_nilm, cells_nilm, one_iface, cells_iface, one_vs, cells_vs, one_vp, cells_vp, cells_agg, Nat.testBit, setAt_1, setAt_2, closeds_nil, closeds_cons, closed_bool, closed_int, closed_str, closed_nilp, closed_nils, closed_nilm, closed_nilf, closed_nili, closed_agg, closed_tup, closed_vs, closed_vp, closed_iface, closed_fn, closeds_cI, closeds_cE, viewA_closed, viewR_closed, AV.scal, AV.scal0, fillA, repA, part_bool, part_int, part_str, part_nilp, part_ptr, part_nils, part_sl, part_nilm, part_mp, part_nilf, part_fn, part_nili, part_iface, part_agg, part_vs, part_vp, viewA_sl1, vaSl_cells, wrap_0, wrap_1, wrap_2, wrap_m1, set_last, get_last, er19_0, er19_1, er19_2, er19_3, er19_4, er19_5, er19_6, er19_7, hsh, hlen, hone, hcl, foldV, hmin, s1, x1, e0, hset0, hH2, hoc, hoo, hset, hF0, va3, gA0, vaJ, c1, c2, c3, c4, c5, c6, i1.closed, i2.closed, i3.closed, i1.one, i2.one, i3.one, i1.cells, i2.cells, i3.cells, get_at, get_at0, set_at, set_at0, resK, resVs, resV, pack]
end Go.Ai.G
/- GraphBack. -/
namespace Go.Ai.G
open Go.Ai
set_option maxRecDepth 100000
set_option linter.unusedSimpArgs false
set_option linter.unusedVariables false
variable {A : AProg} {φ : Nat → Nat}
theorem er24_0 (φ : Nat → Nat) : r24_0 φ = [
  ⟨0, .N .box, [.n 2], none, 0⟩,
  ⟨1, .N .mv, [.c (.bool false)], none, 0⟩] := Eq.trans rfl rfl
theorem er24_1 (φ : Nat → Nat) : r24_1 φ = [
  ⟨0, .calli true (φ 0), [], none, 0⟩,
  ⟨1, .N .mv, [.l 0], none, 0⟩] := Eq.trans rfl rfl
theorem er24_2 (φ : Nat → Nat) : r24_2 φ = [
  ⟨0, .N .mv, [.n 0], none, 0⟩,
  ⟨1, .N .mv, [.n 1], none, 0⟩,
  ⟨2, .calli false (φ 22), [.l 1, .l 0, .c (.int .i64 40)], none, 0⟩,
  ⟨3, .N (.alloc [.int .i64 0, .nils]), [], none, 0⟩,
  ⟨4, .X (.store 2), [.l 0, .l 1], none, 0⟩] := Eq.trans rfl rfl
theorem er24_3 (φ : Nat → Nat) : r24_3 φ = [
  ⟨0, .N (.fadd 0), [.n 6], none, 0⟩,
  ⟨1, .N .load1, [.l 0], none, 0⟩,
  ⟨2, .N (.bin .lss), [.l 0, .c (.int .i64 2)], none, 0⟩] := Eq.trans rfl rfl
theorem er24_4 (φ : Nat → Nat) : r24_4 φ = [
  ⟨0, .N .mv, [.n 5], none, 0⟩,
  ⟨1, .N .mv, [.l 0], none, 0⟩] := Eq.trans rfl rfl
theorem er24_5 (φ : Nat → Nat) : r24_5 φ = [
  ⟨0, .N (.idxA 2 1), [.n 3, .c (.int .i64 0)], none, 0⟩,
  ⟨1, .N .load1, [.l 0], none, 0⟩,
  ⟨2, .N (.bin .and), [.l 0, .c (.int .i64 65535)], none, 0⟩,
  ⟨3, .N (.fadd 0), [.n 6], none, 0⟩,
  ⟨4, .N .load1, [.l 0], none, 0⟩,
  ⟨5, .N (.bin .rem), [.l 2, .l 0], none, 0⟩,
  ⟨6, .N .mv, [.l 0], none, 0⟩] := Eq.trans rfl rfl
theorem er24_6 (φ : Nat → Nat) : r24_6 φ = [
  ⟨0, .N (.idxA 2 1), [.n 3, .c (.int .i64 1)], none, 0⟩,
  ⟨1, .N .load1, [.l 0], none, 0⟩,
  ⟨2, .N (.bin .and), [.l 0, .c (.int .i64 65535)], none, 0⟩,
  ⟨3, .N (.fadd 0), [.n 6], none, 0⟩,
  ⟨4, .N .load1, [.l 0], none, 0⟩,
  ⟨5, .N (.bin .rem), [.l 2, .l 0], none, 0⟩,
  ⟨6, .N .mv, [.l 0], none, 0⟩] := Eq.trans rfl rfl
theorem er24_7 (φ : Nat → Nat) : r24_7 φ = [
  ⟨0, .N (.bsl [.int .i64 0, .int .i64 0] 0 2 []), [], none, 0⟩,
  ⟨1, .N (.fadd 1), [.n 6], none, 0⟩,
  ⟨2, .N .load1, [.l 0], none, 0⟩,
  ⟨3, .X (.app 2 16), [.l 2, .l 0], none, 0⟩,
  ⟨4, .N .mv, [.l 0], none, 0⟩] := Eq.trans rfl rfl
theorem er24_8 (φ : Nat → Nat) : r24_8 φ = [
  ⟨0, .N (.loadN 2), [.n 6], none, 0⟩,
  ⟨1, .N .mv, [.n 7], none, 0⟩,
  ⟨2, .N .mv, [.n 8], none, 0⟩,
  ⟨3, .calli true (φ 8), [.l 2, .l 1, .l 0], none, 0⟩,
  ⟨4, .N .mv, [.l 0], none, 0⟩] := Eq.trans rfl rfl
theorem er24_9 (φ : Nat → Nat) : r24_9 φ = [
  ⟨0, .N (.loadN 2), [.n 6], none, 0⟩,
  ⟨1, .N .mv, [.n 7], none, 0⟩,
  ⟨2, .N .mv, [.n 8], none, 0⟩,
  ⟨3, .calli false (φ 15), [.l 2, .l 1, .l 0], none, 0⟩,
  ⟨4, .N .mv, [.l 0], none, 0⟩,
  ⟨5, .N (.ext 0), [.l 0], none, 0⟩,
  ⟨6, .N (.ext 1), [.l 1], none, 0⟩,
  ⟨7, .N (.alloc [.int .i64 0, .nils]), [], none, 0⟩,
  ⟨8, .X (.store 2), [.l 0, .l 2], none, 0⟩,
  ⟨9, .N .mv, [.l 2], none, 0⟩] := Eq.trans rfl rfl
theorem er24_10 (φ : Nat → Nat) : r24_10 φ = [
  ⟨0, .N .mv, [.n 7], none, 0⟩,
  ⟨1, .N .mv, [.n 8], none, 0⟩,
  ⟨2, .N (.bin .eql), [.l 1, .l 0], none, 0⟩] := Eq.trans rfl rfl
theorem er24_11 (φ : Nat → Nat) : r24_11 φ = [
  ⟨0, .N .mv, [.n 5], none, 0⟩,
  ⟨1, .N .mv, [.l 0], none, 0⟩,
  ⟨2, .N .mv, [.n 12], some (.l 0, true), 0⟩,
  ⟨3, .N (.bin .eql), [.l 0, .c (.int .i64 1)], some (.l 1, true), 0⟩,
  ⟨4, .N .pick, [.l 2, .l 0, .c (.bool false)], none, 0⟩,
  ⟨5, .N .mv, [.l 0], none, 0⟩,
  ⟨6, .N (.fadd 1), [.n 11], some (.l 0, true), 0⟩,
  ⟨7, .N .load1, [.l 0], some (.l 1, true), 0⟩,
  ⟨8, .N .lenS, [.l 0], some (.l 2, true), 0⟩,
  ⟨9, .N (.bin .eql), [.l 0, .c (.int .i64 0)], some (.l 3, true), 0⟩,
  ⟨10, .N .pick, [.l 4, .l 0, .c (.bool false)], none, 0⟩,
  ⟨11, .N .mv, [.l 0], none, 0⟩] := Eq.trans rfl rfl
theorem er24_12 (φ : Nat → Nat) : r24_12 φ = [
  ⟨0, .N .mv, [.n 12], none, 0⟩,
  ⟨1, .N (.bin .neq), [.l 0, .c (.int .i64 0)], none, 0⟩,
  ⟨2, .N .mv, [.l 0], none, 0⟩,
  ⟨3, .N (.loadN 2), [.n 11], some (.l 0, false), 0⟩,
  ⟨4, .N .mv, [.n 8], some (.l 1, false), 0⟩,
  ⟨5, .N .mv, [.n 7], some (.l 2, false), 0⟩,
  ⟨6, .calli true (φ 7), [.l 2, .l 1, .l 0], some (.l 3, false), 0⟩,
  ⟨7, .N (.un .not), [.l 0], some (.l 4, false), 0⟩,
  ⟨8, .N .pick, [.l 5, .c (.bool true), .l 0], none, 0⟩,
  ⟨9, .N .mv, [.l 0], none, 0⟩,
  ⟨10, .N (.fadd 1), [.n 11], some (.l 0, false), 0⟩,
  ⟨11, .N .load1, [.l 0], some (.l 1, false), 0⟩,
  ⟨12, .N .lenS, [.l 0], some (.l 2, false), 0⟩,
  ⟨13, .N .mv, [.n 9], some (.l 3, false), 0⟩,
  ⟨14, .N .lenS, [.l 0], some (.l 4, false), 0⟩,
  ⟨15, .N (.bin .add), [.l 0, .c (.int .i64 1)], some (.l 5, false), 0⟩,
  ⟨16, .N (.bin .neq), [.l 3, .l 0], some (.l 6, false), 0⟩,
  ⟨17, .N .mv, [.l 0], some (.l 7, false), 0⟩,
  ⟨18, .N .mv, [.n 10], some (.l 0, true), 0⟩,
  ⟨19, .N (.un .not), [.l 0], some (.l 1, true), 0⟩,
  ⟨20, .N .pick, [.l 2, .l 0, .c (.bool false)], some (.l 10, false), 0⟩,
  ⟨21, .N .pick, [.l 11, .c (.bool true), .l 0], none, 0⟩,
  ⟨22, .N .mv, [.l 0], none, 0⟩,
  ⟨23, .N .mv, [.n 10], some (.l 0, false), 0⟩,
  ⟨24, .N .mv, [.l 0], some (.l 1, false), 0⟩,
  ⟨25, .N (.loadN 2), [.n 11], some (.l 0, true), 0⟩,
  ⟨26, .N (.loadN 2), [.n 6], some (.l 1, true), 0⟩,
  ⟨27, .calli true (φ 3), [.l 1, .l 0], some (.l 2, true), 0⟩,
  ⟨28, .N (.un .not), [.l 0], some (.l 3, true), 0⟩,
  ⟨29, .N .pick, [.l 4, .l 0, .c (.bool false)], some (.l 6, false), 0⟩,
  ⟨30, .N .pick, [.l 7, .c (.bool true), .l 0], none, 0⟩] := Eq.trans rfl rfl
theorem er24_13 (φ : Nat → Nat) : r24_13 φ = [
  ⟨0, .N .mv, [.c (.bool false)], none, 0⟩] := Eq.trans rfl rfl
theorem er24_14 (φ : Nat → Nat) : r24_14 φ = [
  ⟨0, .N (.loadN 2), [.n 11], none, 0⟩,
  ⟨1, .N .mv, [.n 8], none, 0⟩,
  ⟨2, .N .mv, [.n 7], none, 0⟩,
  ⟨3, .calli false (φ 17), [.l 2, .l 1, .l 0], none, 0⟩,
  ⟨4, .N .mv, [.l 0], none, 0⟩,
  ⟨5, .N (.ext 0), [.l 0], none, 0⟩,
  ⟨6, .N (.ext 1), [.l 1], none, 0⟩,
  ⟨7, .N (.alloc [.int .i64 0, .nils]), [], none, 0⟩,
  ⟨8, .X (.store 2), [.l 0, .l 2], none, 0⟩,
  ⟨9, .N .mv, [.l 2], none, 0⟩] := Eq.trans rfl rfl
theorem er24_15 (φ : Nat → Nat) : r24_15 φ = [
  ⟨0, .N (.loadN 2), [.n 13], none, 0⟩,
  ⟨1, .N .mv, [.n 7], none, 0⟩,
  ⟨2, .N .mv, [.n 8], none, 0⟩,
  ⟨3, .calli false (φ 17), [.l 2, .l 1, .l 0], none, 0⟩,
  ⟨4, .N .mv, [.l 0], none, 0⟩,
  ⟨5, .N (.ext 0), [.l 0], none, 0⟩,
  ⟨6, .N (.ext 1), [.l 1], none, 0⟩,
  ⟨7, .N (.alloc [.int .i64 0, .nils]), [], none, 0⟩,
  ⟨8, .X (.store 2), [.l 0, .l 2], none, 0⟩,
  ⟨9, .N .mv, [.l 2], none, 0⟩] := Eq.trans rfl rfl
theorem er24_16 (φ : Nat → Nat) : r24_16 φ = [
  ⟨0, .N .mv, [.n 5], none, 0⟩,
  ⟨1, .N .mv, [.l 0], none, 0⟩,
  ⟨2, .N .mv, [.n 14], some (.l 0, true), 0⟩,
  ⟨3, .N (.bin .eql), [.l 0, .c (.int .i64 0)], some (.l 1, true), 0⟩,
  ⟨4, .N .pick, [.l 2, .l 0, .c (.bool false)], none, 0⟩,
  ⟨5, .N .mv, [.l 0], none, 0⟩,
  ⟨6, .N .mv, [.n 15], some (.l 0, true), 0⟩,
  ⟨7, .N (.bin .eql), [.l 0, .c (.int .i64 6)], some (.l 1, true), 0⟩,
  ⟨8, .N .pick, [.l 2, .l 0, .c (.bool false)], none, 0⟩,
  ⟨9, .N .mv, [.l 0], none, 0⟩,
  ⟨10, .N .mv, [.n 10], some (.l 0, true), 0⟩,
  ⟨11, .N .mv, [.l 0], some (.l 1, true), 0⟩,
  ⟨12, .N (.fadd 1), [.n 13], some (.l 0, false), 0⟩,
  ⟨13, .N .load1, [.l 0], some (.l 1, false), 0⟩,
  ⟨14, .N .mv, [.n 9], some (.l 2, false), 0⟩,
  ⟨15, .calli true (φ 23), [.l 1, .l 0], some (.l 3, false), 0⟩,
  ⟨16, .N .pick, [.l 4, .c (.bool true), .l 0], some (.l 6, true), 0⟩,
  ⟨17, .N .pick, [.l 7, .l 0, .c (.bool false)], none, 0⟩,
  ⟨18, .N .mv, [.l 0], none, 0⟩,
  ⟨19, .N (.fadd 1), [.n 6], some (.l 0, true), 0⟩,
  ⟨20, .N .load1, [.l 0], some (.l 1, true), 0⟩,
  ⟨21, .N .mv, [.n 9], some (.l 2, true), 0⟩,
  ⟨22, .calli true (φ 23), [.l 1, .l 0], some (.l 3, true), 0⟩,
  ⟨23, .N .pick, [.l 4, .l 0, .c (.bool false)], none, 0⟩,
  ⟨24, .N .mv, [.l 0], none, 0⟩] := Eq.trans rfl rfl
theorem any_right (n : Int) (l : List Ed) {most : Int} (h0 : 0 ≤ most) (h1 : most ≤ 1000) : rightE (anyN n most) (anyE n most l) = true := by
  have := @normalE_right (anyN n most) (anyL (anyN n most) l)
  rw [any_normal l h0 h1] at this
  exact this rfl
theorem anyE_len (n most : Int) (l : List Ed) : (anyE n most l).length ≤ 300 := Nat.le_trans (setE_le _) (anyL_len _ _)
theorem right_ends {n : Int} {es : List Ed} (h : rightE n es = true) : ∀ x ∈ es, 0 ≤ x.1 ∧ x.1 < x.2 ∧ x.2 < n := by
  intro x hx
  obtain ⟨i, hi, rfl⟩ := List.getElem_of_mem hx
  exact right_step h hi
theorem back_facts {N : Int} {E : List Ed} {a b : Int} (hR : rightE N E = true) (hl : E.length ≤ 300) (ha : 0 ≤ a ∧ a < N) (hb : 0 ≤ b ∧ b < N) (hab : a ≠ b) :
    ∃ X Y, addE N E a b = (N, X, 0) ∧ rightE N X = true ∧ hasE N X b a = true ∧ (hasE N E a b = true → X = E) ∧ (hasE N E a b = false → X.length = E.length + 1) ∧
      withoutE N X b a = (N, Y, 0) ∧ withoutE N Y a b = (0, [], 6) ∧ (hasE N E a b = false → Y = E) ∧ X.length ≤ 4000 ∧ Y.length ≤ 4000 := by
  have hn := right_len hR
  have hEe := right_ends hR
  have hok : (E ++ [(a, b)]).all (okEnds N) = true := by
    rw [List.all_append, Bool.and_eq_true, List.all_eq_true]
    refine ⟨fun x hx => ?_, ?_⟩
    · have := hEe x hx
      rw [okEnds, decide_eq_true (by omega), decide_eq_true (by omega)]; rfl
    · simp only [List.all_cons, List.all_nil, Bool.and_true]
      rw [okEnds, decide_eq_true (by simp only; omega), decide_eq_true (by simp only; omega)]; rfl
  have hlen : (setE (E ++ [(a, b)])).length ≤ 4000 := by
    have := setE_le (E ++ [(a, b)])
    simp at this; omega
  have hnE := normalE_ok hn.1 hn.2.1 hok hlen
  have hmem : ∀ x, x ∈ setE (E ++ [(a, b)]) ↔ x ∈ E ∨ x = (min a b, max a b) := by
    intro x
    rw [setE_mem, normsE_mem]
    constructor
    · rintro ⟨y, hy, hne, rfl⟩
      rcases List.mem_append.1 hy with hy | hy
      · have := hEe y hy
        left
        rw [Int.min_eq_left (by omega), Int.max_eq_right (by omega)]; exact hy
      · simp at hy; subst hy; right; rfl
    · rintro (h | rfl)
      · have := hEe x h
        exact ⟨x, List.mem_append_left _ h, by omega, by rw [Int.min_eq_left (by omega), Int.max_eq_right (by omega)]⟩
      · exact ⟨(a, b), by simp, hab, rfl⟩
  have hXR : rightE N (setE (E ++ [(a, b)])) = true := by
    have := @normalE_right N (E ++ [(a, b)])
    rw [hnE] at this
    exact this rfl
  have hadd : addE N E a b = (N, setE (E ++ [(a, b)]), 0) := by
    rw [addE_def, if_neg (by simp [hR]), if_neg (by omega), if_neg hab, hnE]
  have hXs := setE_strict (E ++ [(a, b)])
  generalize setE (E ++ [(a, b)]) = X at *
  have hmX : (min a b, max a b) ∈ X := (hmem _).2 (.inr rfl)
  have hY := strict_erase (min a b, max a b) hXs
  have hmY : ∀ x, x ∈ X.erase (min a b, max a b) ↔ x ∈ X ∧ x ≠ (min a b, max a b) := by
    intro x; rw [hY, List.mem_filter]; simp
  have hYs : (X.erase (min a b, max a b)).Pairwise ltE := by rw [hY]; exact hXs.filter _
  have hYl : (X.erase (min a b, max a b)).length = X.length - 1 := List.length_erase_of_mem hmX
  have hXe := right_ends hXR
  have hYR : rightE N (X.erase (min a b, max a b)) = true := right_of hn.1 hn.2.1 (by omega) hYs (fun x hx => hXe x ((hmY x).1 hx).1)
  have hXp : 0 < X.length := List.length_pos_of_mem hmX
  have hEs := right_strict hR
  have hYE : hasE N E a b = false → X.erase (min a b, max a b) = E := by
    intro h
    rw [hasE_min hR, decide_eq_false_iff_not] at h
    refine strict_eq _ _ hYs hEs fun x => ?_
    rw [hmY, hmem]
    constructor
    · rintro ⟨h1 | h1, h2⟩
      · exact h1
      · exact absurd h1 h2
    · exact fun h1 => ⟨.inl h1, fun e => h (e ▸ h1)⟩
  refine ⟨X, X.erase (min a b, max a b), hadd, hXR, ?_, fun h => ?_, fun h => ?_, ?_, ?_, hYE, hlen, by omega⟩
  · rw [hasE_min hXR, decide_eq_true_eq, Int.min_comm, Int.max_comm]; exact hmX
  · rw [hasE_min hR, decide_eq_true_eq] at h
    refine strict_eq _ _ hXs hEs fun x => ?_
    rw [hmem]
    exact ⟨fun h1 => h1.elim id (fun e => e ▸ h), .inl⟩
  · have := congrArg List.length (hYE h)
    omega
  · unfold withoutE
    rw [if_neg (by simp [hXR]), if_pos (by rw [Int.min_comm, Int.max_comm]; exact hmX), Int.min_comm b a, Int.max_comm b a]
  · unfold withoutE
    rw [if_neg (by simp [hYR]), if_neg (fun h => ((hmY _).1 h).2 rfl)]
theorem w_GraphBack (h : Has A (φ 24) (f24 φ)) (hS : PVal A (φ 0) [] (.bool true)) (g : GC A φ) (n : Int) (v : AV) (l : List Ed) (hv : IsE v l) (e0 e1 : Int) :
    PVal A (φ 24) [.int .i64 n, v, .agg [.int .i64 e0, .int .i64 e1]] (.bool true) := by
  have hsh := hS.eq
  have hcl := hv.closed
  have c0 := (g.any n 40 v l hv (by omega) (by omega)).eq
  have hR := any_right n l (most := 40) (by omega) (by omega)
  have hEl := anyE_len n 40 l
  have hNr := anyN_range (n := n) (most := 40) (by omega)
  generalize anyN n 40 = N at *
  generalize anyE n 40 l = E at *
  have iE := isE_r E
  refine pval_has h rfl ?_
  simp only [b24, f24]
  have rr : ∀ x : Int, N ≠ 0 → binV .rem (.int .i64 (x % 65536)) (.int .i64 N) = some (.int .i64 ((x % 65536).tmod N)) := fun x hx => b_rem _ _ _ hx
  by_cases h2 : N < 2
  · simp [↓getD_z, ↓getD_s, -List.getD_eq_getElem?_getD, -Int.ofNat_toNat, -getElem?_pos, gz, ↓hid_k, ↓hid_o, ↓hid_q, ↓hid_v, ↓PO_nil, ↓PO_none, ↓PO_grd, ↓PD_nil, ↓PD_none, ↓PD_grd, ↓PDO_N, ↓PDO_X, ↓PDO_call, ↓PDO_calli, ↓PDO_callv, PDX_free, PDX_eq, ↓PStep_N, ↓PStep_X, ↓PStep_call, ↓PStep_calli, PStep_callv, ↓PC_skip, ↓PC_lab, ↓PC_ret, ↓PC_exit, ↓PC_reg, ↓PC_draw, ↓PC_seq, ↓PC_block, ↓PC_loop, ↓PC_scope, ↓PC_cond, ↓thenC_norm, ↓thenC_ret, ↓thenC_exit, ↓blockC_norm, ↓blockC_ret, ↓blockC_exit, ↓loopC_norm, ↓loopC_ret, ↓loopC_exit, ↓endR_ret, ↓endR_norm, resK_none, resK_t, resK_tt, KNO_val, KNO_new, KNO_ite, KNO_map, KXO_some, KXO_ite, KVA_t, KVA_f, KG_skip, KG_tt, KG_ff, KG_tf, KG_ft, KB_true, KB_false, KNOD_val, KNOD_new, KNOD_ite, n_mv, n_pick, n_bin, n_eqB, n_eqN, n_eqS, n_un, n_conv, n_fadd, n_faddV, n_fld1, n_fldN, n_idx, n_idxA, n_idxV, n_idxAV, n_ext, n_lenS, n_lenS0, n_lenV, n_lenT, n_lenA, n_min, n_max, n_build, n_mkfn, n_slc, n_slc0, n_slcV, n_slcA, n_load1, n_loadN, n_load1V, n_loadNV, n_alloc, n_box, n_bsl, n_mksl, n_nilcP, n_nilcV, n_nilcI, n_nilcF, x_store, x_clear0, x_clear, b_add, b_sub, b_mul, b_eql, b_neq, b_lss, b_leq, b_gtr, b_geq, b_and16, unV, ntouch, gather, hide, unhide, evalOpd, applyOuts, int_bne, int_beq, ite_bool, ite_int, one_bool, cells_bool, one_int, cells_int, one_str, cells_str, one_nilp, cells_nilp, one_ptr, cells_ptr, one_nils, cells_nils, one_sl, cells_sl, one_nilf, cells_nilf, one_fn, cells_fn, one_nili, cells_nili, one_mp, cells_mp, one_nilm, cells_nilm, one_iface, cells_iface, one_vs, cells_vs, one_vp, cells_vp, cells_agg, Nat.testBit, setAt_1, setAt_2, closeds_nil, closeds_cons, closed_bool, closed_int, closed_str, closed_nilp, closed_nils, closed_nilm, closed_nilf, closed_nili, closed_agg, closed_tup, closed_vs, closed_vp, closed_iface, closed_fn, closeds_cI, closeds_cE, viewA_closed, viewR_closed, AV.scal, AV.scal0, fillA, repA, part_bool, part_int, part_str, part_nilp, part_ptr, part_nils, part_sl, part_nilm, part_mp, part_nilf, part_fn, part_nili, part_iface, part_agg, part_vs, part_vp, viewA_sl1, vaSl_cells, wrap_0, wrap_1, wrap_2, wrap_m1, set_last, get_last, er24_0, er24_1, er24_2, er24_3, er24_4, er24_5, er24_6, er24_7, er24_8, er24_9, er24_10, er24_11, er24_12, er24_13, er24_14, er24_15, er24_16, hsh, hcl, c0, iE.closed, iE.one, iE.cells, h2, resK, resVs, resV, pack]
  · have hN0 : N ≠ 0 := by omega
    have ra : 0 ≤ (e0 % 65536).tmod N ∧ (e0 % 65536).tmod N < N := by
      rw [Int.tmod_eq_emod_of_nonneg (Int.emod_nonneg _ (by decide))]
      exact ⟨Int.emod_nonneg _ (by omega), Int.emod_lt_of_pos _ (by omega)⟩
    have rb : 0 ≤ (e1 % 65536).tmod N ∧ (e1 % 65536).tmod N < N := by
      rw [Int.tmod_eq_emod_of_nonneg (Int.emod_nonneg _ (by decide))]
      exact ⟨Int.emod_nonneg _ (by omega), Int.emod_lt_of_pos _ (by omega)⟩
    have r1 := rr e0 hN0
    have r2 := rr e1 hN0
    generalize (e0 % 65536).tmod N = a at *
    generalize (e1 % 65536).tmod N = b at *
    have b0 : Own false 2 ([.cells 0 false [.int .i64 e0, .int .i64 e1], .cells 0 false [.int .i64 N, rE E], .cells 0 false []] : Heap) (.sl 2 0 0 0 2 0 true) 2 0 [] := .inl ⟨rfl, rfl, 2, 0, 0, rfl⟩
    obtain ⟨o, H', x1, x2, x3, x4, x5⟩ := Own.app (bytes := 16) b0 (iE.src _) (cellsE_length _) (ones_cE _) (by simp) (by simp; omega)
    have q0 : H'[0]? = some (.cells 0 false [.int .i64 e0, .int .i64 e1]) := by rw [x3 0 (by simp) (by simp [blkOf])]; rfl
    have q1 : H'[1]? = some (.cells 0 false [.int .i64 N, rE E]) := by rw [x3 1 (by simp) (by simp [blkOf])]; rfl
    have q1J : ∀ J, (H' ++ J)[1]? = some (.cells 0 false [.int .i64 N, rE E]) := fun J => get_more J q1
    have hown : OwnE false 2 H' o E := by simpa [OwnE] using x2
    have hln : ∀ rd, nstep .lenS [o] rd = some (.val (.int .i64 E.length)) := (Own.vw hown).len
    have hva : ∀ (J : Heap) (x : AV), x.closed = true → viewA (H' ++ J) [x, o] = some ([x, rv false E.length 2 (cellsE E)], frzOf (H' ++ J) o) := fun J x hx => (Own.vw (hown.more J)).r2 (closeds_cE E) x hx
    have iV : IsE (rv false E.length 2 (cellsE E)) E := is_rv (cellsE_length E) (closeds_cE E)
    have c1 := (g.rhas N a b _ E iE).eq
    have c2 := (g.add N a b _ E iE).eq
    have c9 := (g.sameE _ _ _ _ iE iV (by omega)).eq
    have hEw : IntKind.i64.wrap ((E.length : Int) + 1) = (E.length : Int) + 1 := wrap_in (by omega) (by omega)
    by_cases hab : a = b
    · subst hab
      have hf : addE N E a a = (0, [], 1) := by rw [addE_def, if_neg (by simp [hR]), if_neg (by omega), if_pos rfl]
      rw [hf] at c2
      have hz : rE [] = AV.nils := rfl
      simp only [gR, hz] at c2
      generalize rE E = uE at *
      simp [↓getD_z, ↓getD_s, -List.getD_eq_getElem?_getD, -Int.ofNat_toNat, -getElem?_pos, gz, ↓hid_k, ↓hid_o, ↓hid_q, ↓hid_v, ↓PO_nil, ↓PO_none, ↓PO_grd, ↓PD_nil, ↓PD_none, ↓PD_grd, ↓PDO_N, ↓PDO_X, ↓PDO_call, ↓PDO_calli, ↓PDO_callv, PDX_free, PDX_eq, ↓PStep_N, ↓PStep_X, ↓PStep_call, ↓PStep_calli, PStep_callv, ↓PC_skip, ↓PC_lab, ↓PC_ret, ↓PC_exit, ↓PC_reg, ↓PC_draw, ↓PC_seq, ↓PC_block, ↓PC_loop, ↓PC_scope, ↓PC_cond, ↓thenC_norm, ↓thenC_ret, ↓thenC_exit, ↓blockC_norm, ↓blockC_ret, ↓blockC_exit, ↓loopC_norm, ↓loopC_ret, ↓loopC_exit, ↓endR_ret, ↓endR_norm, resK_none, resK_t, resK_tt, KNO_val, KNO_new, KNO_ite, KNO_map, KXO_some, KXO_ite, KVA_t, KVA_f, KG_skip, KG_tt, KG_ff, KG_tf, KG_ft, KB_true, KB_false, KNOD_val, KNOD_new, KNOD_ite, n_mv, n_pick, n_bin, n_eqB, n_eqN, n_eqS, n_un, n_conv, n_fadd, n_faddV, n_fld1, n_fldN, n_idx, n_idxA, n_idxV, n_idxAV, n_ext, n_lenS, n_lenS0, n_lenV, n_lenT, n_lenA, n_min, n_max, n_build, n_mkfn, n_slc, n_slc0, n_slcV, n_slcA, n_load1, n_loadN, n_load1V, n_loadNV, n_alloc, n_box, n_bsl, n_mksl, n_nilcP, n_nilcV, n_nilcI, n_nilcF, x_store, x_clear0, x_clear, b_add, b_sub, b_mul, b_eql, b_neq, b_lss, b_leq, b_gtr, b_geq, b_and16, unV, ntouch, gather, hide, unhide, evalOpd, applyOuts, int_bne, int_beq, ite_bool, ite_int, one_bool, cells_bool, one_int, cells_int, one_str, cells_str, one_nilp, cells_nilp, one_ptr, cells_ptr, one_nils, cells_nils, one_sl, cells_sl, one_nilf, cells_nilf, one_fn, cells_fn, one_nili, cells_nili, one_mp, cells_mp, one_nilm, cells_nilm, one_iface, cells_iface, one_vs, cells_vs, one_vp, cells_vp, cells_agg, Nat.testBit, setAt_1, setAt_2, closeds_nil, closeds_cons, closed_bool, closed_int, closed_str, closed_nilp, closed_nils, closed_nilm, closed_nilf, closed_nili, closed_agg, closed_tup, closed_vs, closed_vp, closed_iface, closed_fn, closeds_cI, closeds_cE, viewA_closed, viewR_closed, AV.scal, AV.scal0, fillA, repA, part_bool, part_int, part_str, part_nilp, part_ptr, part_nils, part_sl, part_nilm, part_mp, part_nilf, part_fn, part_nili, part_iface, part_agg, part_vs, part_vp, viewA_sl1, vaSl_cells, wrap_0, wrap_1, wrap_2, wrap_m1, set_last, get_last, er24_0, er24_1, er24_2, er24_3, er24_4, er24_5, er24_6, er24_7, er24_8, er24_9, er24_10, er24_11, er24_12, er24_13, er24_14, er24_15, er24_16, hsh, hcl, c0, iE.closed, iE.one, iE.cells, h2, r1, r2, x1, q0, q1, q1J, c1, c2, get_at, get_at0, set_at, set_at0, resK, resVs, resV, pack]
    · obtain ⟨X, Y, f1, f2, f3, f4, f5, f6, f7, f8, f9, f10⟩ := back_facts hR hEl ra rb hab
      rw [f1] at c2
      have iX := isE_r X
      have iY0 : IsE (rv false Y.length 2 (cellsE Y)) Y := is_rv (cellsE_length Y) (closeds_cE Y)
      have c3 := (g.has N b a _ X iX).eq
      have c4 := (g.without N b a _ X iX).eq
      have c5 := (g.without N a b _ Y iY0).eq
      have c6 := (g.sameG N N _ _ X E iX iE (by omega)).eq
      have c7 := (g.sameE _ _ _ _ iY0 iV (by omega)).eq
      rw [f3] at c3; rw [f6] at c4; rw [f7] at c5
      have hXl := iX.len
      have z1 : rv (decide ((0 : Int) ≠ 0)) Y.length 2 (cellsE Y) = rv false Y.length 2 (cellsE Y) := rfl
      have z2 : rv (decide ((6 : Int) ≠ 0)) ([] : List Ed).length 2 (cellsE []) = .nils := rfl
      simp only [gR, gW, z1, z2] at c2 c4 c5
      cases hh : hasE N E a b with
      | true =>
        have e1 := f4 hh
        subst e1
        rw [hh] at c1
        have hne : ¬ ((X.length : Int) = (X.length : Int) + 1) := by omega
        generalize rE X = uX at *
        generalize rv false Y.length 2 (cellsE Y) = uY at *
        generalize rv false X.length 2 (cellsE X) = uV at *
        simp [↓getD_z, ↓getD_s, -List.getD_eq_getElem?_getD, -Int.ofNat_toNat, -getElem?_pos, gz, ↓hid_k, ↓hid_o, ↓hid_q, ↓hid_v, ↓PO_nil, ↓PO_none, ↓PO_grd, ↓PD_nil, ↓PD_none, ↓PD_grd, ↓PDO_N, ↓PDO_X, ↓PDO_call, ↓PDO_calli, ↓PDO_callv, PDX_free, PDX_eq, ↓PStep_N, ↓PStep_X, ↓PStep_call, ↓PStep_calli, PStep_callv, ↓PC_skip, ↓PC_lab, ↓PC_ret, ↓PC_exit, ↓PC_reg, ↓PC_draw, ↓PC_seq, ↓PC_block, ↓PC_loop, ↓PC_scope, ↓PC_cond, ↓thenC_norm, ↓thenC_ret, ↓thenC_exit, ↓blockC_norm, ↓blockC_ret, ↓blockC_exit, ↓loopC_norm, ↓loopC_ret, ↓loopC_exit, ↓endR_ret, ↓endR_norm, resK_none, resK_t, resK_tt, KNO_val, KNO_new, KNO_ite, KNO_map, KXO_some, KXO_ite, KVA_t, KVA_f, KG_skip, KG_tt, KG_ff, KG_tf, KG_ft, KB_true, KB_false, KNOD_val, KNOD_new, KNOD_ite, n_mv, n_pick, n_bin, n_eqB, n_eqN, n_eqS, n_un, n_conv, n_fadd, n_faddV, n_fld1, n_fldN, n_idx, n_idxA, n_idxV, n_idxAV, n_ext, n_lenS, n_lenS0, n_lenV, n_lenT, n_lenA, n_min, n_max, n_build, n_mkfn, n_slc, n_slc0, n_slcV, n_slcA, n_load1, n_loadN, n_load1V, n_loadNV, n_alloc, n_box, n_bsl, n_mksl, n_nilcP, n_nilcV, n_nilcI, n_nilcF, x_store, x_clear0, x_clear, b_add, b_sub, b_mul, b_eql, b_neq, b_lss, b_leq, b_gtr, b_geq, b_and16, unV, ntouch, gather, hide, unhide, evalOpd, applyOuts, int_bne, int_beq, ite_bool, ite_int, one_bool, cells_bool, one_int, cells_int, one_str, cells_str, one_nilp, cells_nilp, one_ptr, cells_ptr, one_nils, cells_nils, one_sl, cells_sl, one_nilf, cells_nilf, one_fn, cells_fn, one_nili, cells_nili, one_mp, cells_mp, one_nilm, cells_nilm, one_iface, cells_iface, one_vs, cells_vs, one_vp, cells_vp, cells_agg, Nat.testBit, setAt_1, setAt_2, closeds_nil, closeds_cons, closed_bool, closed_int, closed_str, closed_nilp, closed_nils, closed_nilm, closed_nilf, closed_nili, closed_agg, closed_tup, closed_vs, closed_vp, closed_iface, closed_fn, closeds_cI, closeds_cE, viewA_closed, viewR_closed, AV.scal, AV.scal0, fillA, repA, part_bool, part_int, part_str, part_nilp, part_ptr, part_nils, part_sl, part_nilm, part_mp, part_nilf, part_fn, part_nili, part_iface, part_agg, part_vs, part_vp, viewA_sl1, vaSl_cells, wrap_0, wrap_1, wrap_2, wrap_m1, set_last, get_last, er24_0, er24_1, er24_2, er24_3, er24_4, er24_5, er24_6, er24_7, er24_8, er24_9, er24_10, er24_11, er24_12, er24_13, er24_14, er24_15, er24_16, hsh, hcl, c0, iE.closed, iE.one, iE.cells, h2, r1, r2, x1, q0, q1, q1J, c1, c2, c3, c4, c5, c6, c7, c9, hab, hne, hln, hXl, hEw, hva, iX.closed, iX.one, iX.cells, iY0.closed, iY0.one, iY0.cells, get_at, get_at0, set_at, set_at0, resK, resVs, resV, pack]
      | false =>
        have e1 := f5 hh
        have e2 := f8 hh
        subst e2
        rw [hh] at c1
        have e1' : (X.length : Int) = (Y.length : Int) + 1 := by omega
        generalize rE X = uX at *
        generalize rE Y = uE at *
        generalize rv false Y.length 2 (cellsE Y) = uY at *
        simp [↓getD_z, ↓getD_s, -List.getD_eq_getElem?_getD, -Int.ofNat_toNat, -getElem?_pos, gz, ↓hid_k, ↓hid_o, ↓hid_q, ↓hid_v, ↓PO_nil, ↓PO_none, ↓PO_grd, ↓PD_nil, ↓PD_none, ↓PD_grd, ↓PDO_N, ↓PDO_X, ↓PDO_call, ↓PDO_calli, ↓PDO_callv, PDX_free, PDX_eq, ↓PStep_N, ↓PStep_X, ↓PStep_call, ↓PStep_calli, PStep_callv, ↓PC_skip, ↓PC_lab, ↓PC_ret, ↓PC_exit, ↓PC_reg, ↓PC_draw, ↓PC_seq, ↓PC_block, ↓PC_loop, ↓PC_scope, ↓PC_cond, ↓thenC_norm, ↓thenC_ret, ↓thenC_exit, ↓blockC_norm, ↓blockC_ret, ↓blockC_exit, ↓loopC_norm, ↓loopC_ret, ↓loopC_exit, ↓endR_ret, ↓endR_norm, resK_none, resK_t, resK_tt, KNO_val, KNO_new, KNO_ite, KNO_map, KXO_some, KXO_ite, KVA_t, KVA_f, KG_skip, KG_tt, KG_ff, KG_tf, KG_ft, KB_true, KB_false, KNOD_val, KNOD_new, KNOD_ite, n_mv, n_pick, n_bin, n_eqB, n_eqN, n_eqS, n_un, n_conv, n_fadd, n_faddV, n_fld1, n_fldN, n_idx, n_idxA, n_idxV, n_idxAV, n_ext, n_lenS, n_lenS0, n_lenV, n_lenT, n_lenA, n_min, n_max, n_build, n_mkfn, n_slc, n_slc0, n_slcV, n_slcA, n_load1, n_loadN, n_load1V, n_loadNV, n_alloc, n_box, n_bsl, n_mksl, n_nilcP, n_nilcV, n_nilcI, n_nilcF, x_store, x_clear0, x_clear, b_add, b_sub, b_mul, b_eql, b_neq, b_lss, b_leq, b_gtr, b_geq, b_and16, unV, ntouch, gather, hide, unhide, evalOpd, applyOuts, int_bne, int_beq, ite_bool, ite_int, one_bool, cells_bool, one_int, cells_int, one_str, cells_str, one_nilp, cells_nilp, one_ptr, cells_ptr, one_nils, cells_nils, one_sl, cells_sl, one_nilf, cells_nilf, one_fn, cells_fn, one_nili, cells_nili, one_mp, cells_mp, one_nilm, cells_nilm, one_iface, cells_iface, one_vs, cells_vs, one_vp, cells_vp, cells_agg, Nat.testBit, setAt_1, setAt_2, closeds_nil, closeds_cons, closed_bool, closed_int, closed_str, closed_nilp, closed_nils, closed_nilm, closed_nilf, closed_nili, closed_agg, closed_tup, closed_vs, closed_vp, closed_iface, closed_fn, closeds_cI, closeds_cE, viewA_closed, viewR_closed, AV.scal, AV.scal0, fillA, repA, part_bool, part_int, part_str, part_nilp, part_ptr, part_nils, part_sl, part_nilm, part_mp, part_nilf, part_fn, part_nili, part_iface, part_agg, part_vs, part_vp, viewA_sl1, vaSl_cells, wrap_0, wrap_1, wrap_2, wrap_m1, set_last, get_last, er24_0, er24_1, er24_2, er24_3, er24_4, er24_5, er24_6, er24_7, er24_8, er24_9, er24_10, er24_11, er24_12, er24_13, er24_14, er24_15, er24_16, hsh, hcl, c0, iE.closed, iE.one, iE.cells, h2, r1, r2, x1, q0, q1, q1J, c1, c2, c3, c4, c5, c6, c7, c9, hab, hln, hXl, hEw, e1', hva, iX.closed, iX.one, iX.cells, iY0.closed, iY0.one, iY0.cells, get_at, get_at0, set_at, set_at0, resK, resVs, resV, pack]
end Go.Ai.G
/- GraphTurned. -/
namespace Go.Ai.G
open Go.Ai
set_option maxRecDepth 100000
set_option linter.unusedSimpArgs false
set_option linter.unusedVariables false
variable {A : AProg} {φ : Nat → Nat}
theorem er21_0 (φ : Nat → Nat) : r21_0 φ = [
  ⟨0, .N .mv, [.c (.bool false)], none, 0⟩] := Eq.trans rfl rfl
theorem er21_1 (φ : Nat → Nat) : r21_1 φ = [
  ⟨0, .calli true (φ 0), [], none, 0⟩,
  ⟨1, .N .mv, [.l 0], none, 0⟩] := Eq.trans rfl rfl
theorem er21_2 (φ : Nat → Nat) : r21_2 φ = [
  ⟨0, .N .mv, [.n 0], none, 0⟩,
  ⟨1, .N (.bin .and), [.l 0, .c (.int .i64 65535)], none, 0⟩,
  ⟨2, .N (.bin .rem), [.l 0, .c (.int .i64 40)], none, 0⟩,
  ⟨3, .N (.bin .add), [.c (.int .i64 1), .l 0], none, 0⟩,
  ⟨4, .N .mv, [.l 0], none, 0⟩] := Eq.trans rfl rfl
theorem er21_3 (φ : Nat → Nat) : r21_3 φ = [
  ⟨0, .N .mv, [.c (.nils)], none, 0⟩] := Eq.trans rfl rfl
theorem er21_4 (φ : Nat → Nat) : r21_4 φ = [
  ⟨0, .N .mv, [.c (.nils)], none, 0⟩] := Eq.trans rfl rfl
theorem er21_5 (φ : Nat → Nat) : r21_5 φ = [
  ⟨0, .N .mv, [.c (.int .i64 0)], none, 0⟩] := Eq.trans rfl rfl
theorem er21_6 (φ : Nat → Nat) : r21_6 φ = [
  ⟨0, .N .mv, [.n 6], none, 0⟩,
  ⟨1, .N .mv, [.n 1], none, 0⟩,
  ⟨2, .N .lenS, [.l 0], none, 0⟩,
  ⟨3, .N (.bin .lss), [.l 2, .l 0], none, 0⟩,
  ⟨4, .N .mv, [.l 0], none, 0⟩,
  ⟨5, .N .mv, [.n 6], some (.l 0, true), 0⟩,
  ⟨6, .N (.bin .lss), [.l 0, .c (.int .i64 200)], some (.l 1, true), 0⟩,
  ⟨7, .N .pick, [.l 2, .l 0, .c (.bool false)], none, 0⟩] := Eq.trans rfl rfl
theorem er21_7 (φ : Nat → Nat) : r21_7 φ = [
  ⟨0, .N .mv, [.n 1], none, 0⟩,
  ⟨1, .N .mv, [.n 6], none, 0⟩,
  ⟨2, .N (.idx 2), [.l 1, .l 0], none, 3⟩,
  ⟨3, .N (.fadd 0), [.l 0], none, 7⟩,
  ⟨4, .N .load1, [.l 0], none, 15⟩,
  ⟨5, .N (.bin .and), [.l 0, .c (.int .i64 65535)], none, 31⟩,
  ⟨6, .N .mv, [.n 0], none, 0⟩,
  ⟨7, .N (.bin .rem), [.l 1, .l 0], none, 127⟩,
  ⟨8, .N .mv, [.n 1], none, 0⟩,
  ⟨9, .N .mv, [.n 6], none, 0⟩,
  ⟨10, .N (.idx 2), [.l 1, .l 0], none, 768⟩,
  ⟨11, .N (.fadd 1), [.l 0], none, 1792⟩,
  ⟨12, .N .load1, [.l 0], none, 3840⟩,
  ⟨13, .N (.bin .and), [.l 0, .c (.int .i64 65535)], none, 7936⟩,
  ⟨14, .N .mv, [.n 0], none, 0⟩,
  ⟨15, .N (.bin .rem), [.l 1, .l 0], none, 32512⟩,
  ⟨16, .N (.build [.int .i64 0, .int .i64 0] [(0, 1), (1, 1)]), [.l 8, .l 0], none, 65535⟩,
  ⟨17, .N (.alloc [.int .i64 0, .int .i64 0]), [], none, 0⟩,
  ⟨18, .X (.store 2), [.l 0, .l 1], none, 262143⟩] := Eq.trans rfl rfl
theorem er21_8 (φ : Nat → Nat) : r21_8 φ = [
  ⟨0, .N .mv, [.n 4], none, 0⟩,
  ⟨1, .N (.loadN 2), [.n 7], none, 0⟩,
  ⟨2, .N (.bsl [.int .i64 0, .int .i64 0] 1 2 [(0, 2)]), [.l 0], none, 0⟩,
  ⟨3, .X (.app 2 16), [.l 2, .l 0], none, 0⟩,
  ⟨4, .N .mv, [.l 0], none, 0⟩] := Eq.trans rfl rfl
theorem er21_9 (φ : Nat → Nat) : r21_9 φ = [
  ⟨0, .N (.fadd 1), [.n 7], none, 0⟩,
  ⟨1, .N .load1, [.l 0], none, 0⟩,
  ⟨2, .N (.fadd 0), [.n 7], none, 0⟩,
  ⟨3, .N .load1, [.l 0], none, 0⟩,
  ⟨4, .N (.build [.int .i64 0, .int .i64 0] [(0, 1), (1, 1)]), [.l 2, .l 0], none, 0⟩,
  ⟨5, .N (.fadd 0), [.n 7], none, 0⟩,
  ⟨6, .N .load1, [.l 0], none, 0⟩,
  ⟨7, .N (.fadd 0), [.n 7], none, 0⟩,
  ⟨8, .N .load1, [.l 0], none, 0⟩,
  ⟨9, .N (.build [.int .i64 0, .int .i64 0] [(0, 1), (1, 1)]), [.l 2, .l 0], none, 0⟩,
  ⟨10, .N (.bsl [.int .i64 0, .int .i64 0] 2 2 [(0, 2), (2, 2)]), [.l 5, .l 0], none, 0⟩,
  ⟨11, .N .mv, [.n 5], none, 0⟩,
  ⟨12, .X (.app 2 16), [.l 1, .l 0], none, 0⟩,
  ⟨13, .N .mv, [.l 0], none, 0⟩] := Eq.trans rfl rfl
theorem er21_10 (φ : Nat → Nat) : r21_10 φ = [
  ⟨0, .N .mv, [.n 6], none, 0⟩,
  ⟨1, .N (.bin .add), [.l 0, .c (.int .i64 1)], none, 0⟩,
  ⟨2, .N .mv, [.l 0], none, 0⟩] := Eq.trans rfl rfl
theorem er21_12 (φ : Nat → Nat) : r21_12 φ = [
  ⟨0, .N .mv, [.n 5], none, 0⟩,
  ⟨1, .N .mv, [.n 4], none, 0⟩,
  ⟨2, .X (.app 2 16), [.l 1, .l 0], none, 0⟩,
  ⟨3, .N .mv, [.l 0], none, 0⟩] := Eq.trans rfl rfl
theorem er21_13 (φ : Nat → Nat) : r21_13 φ = [
  ⟨0, .N .mv, [.n 0], none, 0⟩,
  ⟨1, .N .mv, [.n 4], none, 0⟩,
  ⟨2, .calli false (φ 1), [.l 1, .l 0], none, 0⟩,
  ⟨3, .N .mv, [.l 0], none, 0⟩,
  ⟨4, .N (.ext 0), [.l 0], none, 0⟩,
  ⟨5, .N (.ext 1), [.l 1], none, 0⟩,
  ⟨6, .N (.alloc [.int .i64 0, .nils]), [], none, 0⟩,
  ⟨7, .X (.store 2), [.l 0, .l 2], none, 0⟩,
  ⟨8, .N .mv, [.l 2], none, 0⟩] := Eq.trans rfl rfl
theorem er21_14 (φ : Nat → Nat) : r21_14 φ = [
  ⟨0, .N .mv, [.n 0], none, 0⟩,
  ⟨1, .N .mv, [.n 5], none, 0⟩,
  ⟨2, .calli false (φ 1), [.l 1, .l 0], none, 0⟩,
  ⟨3, .N .mv, [.l 0], none, 0⟩,
  ⟨4, .N (.ext 0), [.l 0], none, 0⟩,
  ⟨5, .N (.ext 1), [.l 1], none, 0⟩,
  ⟨6, .N (.alloc [.int .i64 0, .nils]), [], none, 0⟩,
  ⟨7, .X (.store 2), [.l 0, .l 2], none, 0⟩,
  ⟨8, .N .mv, [.l 2], none, 0⟩] := Eq.trans rfl rfl
theorem er21_15 (φ : Nat → Nat) : r21_15 φ = [
  ⟨0, .N .mv, [.n 0], none, 0⟩,
  ⟨1, .N (.fadd 1), [.n 8], none, 0⟩,
  ⟨2, .N .load1, [.l 0], none, 0⟩,
  ⟨3, .calli false (φ 1), [.l 2, .l 0], none, 0⟩,
  ⟨4, .N .mv, [.l 0], none, 0⟩,
  ⟨5, .N (.ext 0), [.l 0], none, 0⟩,
  ⟨6, .N (.ext 1), [.l 1], none, 0⟩,
  ⟨7, .N (.alloc [.int .i64 0, .nils]), [], none, 0⟩,
  ⟨8, .X (.store 2), [.l 0, .l 2], none, 0⟩,
  ⟨9, .N .mv, [.l 2], none, 0⟩] := Eq.trans rfl rfl
theorem er21_16 (φ : Nat → Nat) : r21_16 φ = [
  ⟨0, .N .mv, [.n 3], none, 0⟩,
  ⟨1, .N .mv, [.l 0], none, 0⟩,
  ⟨2, .N .mv, [.n 9], some (.l 0, true), 0⟩,
  ⟨3, .N (.bin .eql), [.l 0, .c (.int .i64 0)], some (.l 1, true), 0⟩,
  ⟨4, .N .pick, [.l 2, .l 0, .c (.bool false)], none, 0⟩,
  ⟨5, .N .mv, [.l 0], none, 0⟩,
  ⟨6, .N .mv, [.n 11], some (.l 0, true), 0⟩,
  ⟨7, .N (.bin .eql), [.l 0, .c (.int .i64 0)], some (.l 1, true), 0⟩,
  ⟨8, .N .pick, [.l 2, .l 0, .c (.bool false)], none, 0⟩,
  ⟨9, .N .mv, [.l 0], none, 0⟩,
  ⟨10, .N .mv, [.n 13], some (.l 0, true), 0⟩,
  ⟨11, .N (.bin .eql), [.l 0, .c (.int .i64 0)], some (.l 1, true), 0⟩,
  ⟨12, .N .pick, [.l 2, .l 0, .c (.bool false)], none, 0⟩,
  ⟨13, .N .mv, [.l 0], none, 0⟩,
  ⟨14, .N (.loadN 2), [.n 8], some (.l 0, true), 0⟩,
  ⟨15, .N (.loadN 2), [.n 10], some (.l 1, true), 0⟩,
  ⟨16, .calli true (φ 3), [.l 1, .l 0], some (.l 2, true), 0⟩,
  ⟨17, .N .pick, [.l 3, .l 0, .c (.bool false)], none, 0⟩,
  ⟨18, .N .mv, [.l 0], none, 0⟩,
  ⟨19, .N (.loadN 2), [.n 8], some (.l 0, true), 0⟩,
  ⟨20, .N (.loadN 2), [.n 12], some (.l 1, true), 0⟩,
  ⟨21, .calli true (φ 3), [.l 1, .l 0], some (.l 2, true), 0⟩,
  ⟨22, .N .pick, [.l 3, .l 0, .c (.bool false)], none, 0⟩,
  ⟨23, .N .mv, [.l 0], none, 0⟩] := Eq.trans rfl rfl
theorem OwnE.pre2 {nl : Bool} {P : Nat} {H : Heap} {t : AV} {ts : List Ed} (h : OwnE nl P H t ts) (x y z w : Int) (hP : P ≤ H.length) (hn : ts.length < 1000000000000) :
    ∃ v' H', xstep (.app 2 16) [.sl H.length 0 0 2 2 2 true, t] (H ++ [.cells 0 false [.int .i64 x, .int .i64 y, .int .i64 z, .int .i64 w]]) = some (v', H') ∧ OwnE false P H' v' ((x, y) :: (z, w) :: ts) ∧ (∀ b, b < H.length → H'[b]? = H[b]?) ∧ H.length + 1 ≤ H'.length ∧ (∀ b, blkOf v' = some b → H.length ≤ b) := by
  have hv : Own false P (H ++ [.cells 0 false [.int .i64 x, .int .i64 y, .int .i64 z, .int .i64 w]]) (.sl H.length 0 0 2 2 2 true) 2 2 [.int .i64 x, .int .i64 y, .int .i64 z, .int .i64 w] :=
    .inr ⟨by omega, H.length, 0, true, rfl, hP, rfl, by simp⟩
  have hbv : blkOf (.sl H.length 0 0 2 2 2 true) = some H.length := by simp [blkOf]
  obtain ⟨v', H', h1, h2, h3, h4, h5⟩ := Own.app (bytes := 16) hv (Own.src (h.more [.cells 0 false [.int .i64 x, .int .i64 y, .int .i64 z, .int .i64 w]])) (cellsE_length ts) (ones_cE ts) (by simp; omega) (by omega)
  refine ⟨v', H', h1, ?_, fun b hb => ?_, by simpa using h4, fun b hb => ?_⟩
  · have e : ((x, y) :: (z, w) :: ts).length = 2 + ts.length := by simp; omega
    rw [OwnE, e]; simpa [cellsE] using h2
  · rw [h3 b (by simp; omega) (by rw [hbv]; simp; omega)]; exact List.getElem?_append_left hb
  · rcases h5 b hb with h | h
    · rw [hbv] at h; simp at h; omega
    · simp at h; omega
theorem w_GraphTurned (h : Has A (φ 21) (f21 φ)) (hS : PVal A (φ 0) [] (.bool true)) (g : GC A φ) (n : Int) (v : AV) (l : List Ed) (hv : IsE v l) :
    PVal A (φ 21) [.int .i64 n, v] (.bool true) := by
  have hsh := hS.eq
  have hlen := hv.len
  have hcl := hv.closed
  have hr40 : binV .rem (.int .i64 (n % 65536)) (.int .i64 40) = some (.int .i64 ((n % 65536).tmod 40)) := b_rem _ _ _ (by decide)
  have hNb : 0 ≤ (n % 65536).tmod 40 ∧ (n % 65536).tmod 40 < 40 := by
    rw [Int.tmod_eq_emod_of_nonneg (Int.emod_nonneg _ (by decide))]
    exact ⟨Int.emod_nonneg _ (by decide), Int.emod_lt_of_pos _ (by decide)⟩
  have hw0 : IntKind.i64.wrap (1 + (n % 65536).tmod 40) = 1 + (n % 65536).tmod 40 := wrap_in (by omega) (by omega)
  refine pval_has h rfl ?_
  simp only [l21_11, b21, f21]
  simp [↓getD_z, ↓getD_s, -List.getD_eq_getElem?_getD, -Int.ofNat_toNat, -getElem?_pos, gz, ↓hid_k, ↓hid_o, ↓hid_q, ↓hid_v, ↓PO_nil, ↓PO_none, ↓PO_grd, ↓PD_nil, ↓PD_none, ↓PD_grd, ↓PDO_N, ↓PDO_X, ↓PDO_call, ↓PDO_calli, ↓PDO_callv, PDX_free, PDX_eq, ↓PStep_N, ↓PStep_X, ↓PStep_call, ↓PStep_calli, PStep_callv, ↓PC_skip, ↓PC_lab, ↓PC_ret, ↓PC_exit, ↓PC_reg, ↓PC_draw, ↓PC_seq, ↓PC_block, ↓PC_loop, ↓PC_scope, ↓PC_cond, ↓thenC_norm, ↓thenC_ret, ↓thenC_exit, ↓blockC_norm, ↓blockC_ret, ↓blockC_exit, ↓loopC_norm, ↓loopC_ret, ↓loopC_exit, ↓endR_ret, ↓endR_norm, resK_none, resK_t, resK_tt, KNO_val, KNO_new, KNO_ite, KNO_map, KXO_some, KXO_ite, KVA_t, KVA_f, KG_skip, KG_tt, KG_ff, KG_tf, KG_ft, KB_true, KB_false, KNOD_val, KNOD_new, KNOD_ite, n_mv, n_pick, n_bin, n_eqB, n_eqN, n_eqS, n_un, n_conv, n_fadd, n_faddV, n_fld1, n_fldN, n_idx, n_idxA, n_idxV, n_idxAV, n_ext, n_lenS, n_lenS0, n_lenV, n_lenT, n_lenA, n_min, n_max, n_build, n_mkfn, n_slc, n_slc0, n_slcV, n_slcA, n_load1, n_loadN, n_load1V, n_loadNV, n_alloc, n_box, n_bsl, n_mksl, n_nilcP, n_nilcV, n_nilcI, n_nilcF, x_store, x_clear0, x_clear, b_add, b_sub, b_mul, b_eql, b_neq, b_lss, b_leq, b_gtr, b_geq, b_and16, unV, ntouch, gather, hide, unhide, evalOpd, applyOuts, int_bne, int_beq, ite_bool, ite_int, one_bool, cells_bool, one_int, cells_int, one_str, cells_str, one_nilp, cells_nilp, one_ptr, cells_ptr, one_nils, cells_nils, one_sl, cells_sl, one_nilf, cells_nilf, one_fn, cells_fn, one_nili, cells_nili, one_mp, cells_mp, one_nilm, cells_nilm, one_iface, cells_iface, one_vs, cells_vs, one_vp, cells_vp, cells_agg, Nat.testBit, setAt_1, setAt_2, closeds_nil, closeds_cons, closed_bool, closed_int, closed_str, closed_nilp, closed_nils, closed_nilm, closed_nilf, closed_nili, closed_agg, closed_tup, closed_vs, closed_vp, closed_iface, closed_fn, closeds_cI, closeds_cE, viewA_closed, viewR_closed, AV.scal, AV.scal0, fillA, repA, part_bool, part_int, part_str, part_nilp, part_ptr, part_nils, part_sl, part_nilm, part_mp, part_nilf, part_fn, part_nili, part_iface, part_agg, part_vs, part_vp, viewA_sl1, vaSl_cells, wrap_0, wrap_1, wrap_2, wrap_m1, set_last, get_last, er21_0, er21_1, er21_2, er21_3, er21_4, er21_5, er21_6, er21_7, er21_8, er21_9, er21_10, er21_12, er21_13, er21_14, er21_15, er21_16, hsh, hr40, hw0]
  generalize hNe : 1 + (n % 65536).tmod 40 = N at *
  have hN : 1 ≤ N ∧ N ≤ 40 := by omega
  have hcs : ((l.take 200).map (turnE N)).length ≤ 200 := by simp; omega
  have hcl2 : ∀ i : Nat, i < ((l.take 200).map (turnE N)).length ↔ i < l.length ∧ i < 200 := fun i => by simp; omega
  have hcg : ∀ (i : Nat) (h : i < ((l.take 200).map (turnE N)).length) (h2 : i < l.length), ((l.take 200).map (turnE N))[i] = turnE N l[i] := fun i h h2 => by simp
  have hok : ((l.take 200).map (turnE N)).all (okEnds N) = true := by
    rw [List.all_eq_true]
    intro x hx
    obtain ⟨y, _, rfl⟩ := List.mem_map.1 hx
    have := turnE_range (N := N) (by omega) y
    rw [okEnds, decide_eq_true (by omega), decide_eq_true (by omega)]; rfl
  generalize (l.take 200).map (turnE N) = cs at *
  refine pc_loopI (fun m st => ∃ (i : Nat) (o t x p : AV) (H : Heap) (nl : Bool) (ts : List Ed), i + m = cs.length ∧ OwnE true 0 H o (cs.take i) ∧ OwnE nl 0 H t ts ∧ ts.length = 2 * i ∧ (∀ y, y ∈ ts ↔ ∃ c ∈ cs.take i, y = (c.2, c.1) ∨ y = (c.1, c.1)) ∧ (∀ b, blkOf o = some b → blkOf t ≠ some b) ∧
      st = ([.int .i64 N, v, .bool false, .bool true, o, t, .int .i64 i, x, .un, .un, .un, .un, .un, .un, p], H)) cs.length ⟨0, _, _, _, _, _, true, [], by simp, own_nil _ _ _, own_nil _ _ _, rfl, by simp, by simp [blkOf], rfl⟩ ?_
  rintro m st ⟨i, o, t, x, p, H, nl, ts, hi, ho, ht, hsl, hsm, hd, rfl⟩
  by_cases hlt : i < cs.length
  · obtain ⟨hl1, hl2⟩ := (hcl2 i).1 hlt
    have hl1' : (i : Int) < l.length := by omega
    have hl2' : (i : Int) < 200 := by omega
    have hg := hcg i hlt hl1
    obtain ⟨i1, g1', g2', le1, t1⟩ := hv.at hl1
    have hw1 := wrap1 hl2 (by omega)
    have r1 : binV .rem (.int .i64 (l[i].1 % 65536)) (.int .i64 N) = some (.int .i64 (turnE N l[i]).1) := b_rem _ _ _ (by omega)
    have r2 : binV .rem (.int .i64 (l[i].2 % 65536)) (.int .i64 N) = some (.int .i64 (turnE N l[i]).2) := b_rem _ _ _ (by omega)
    rw [← hg] at r1 r2
    have hts : cs.take (i + 1) = cs.take i ++ [cs[i]] := List.take_succ_eq_append_getElem hlt
    generalize cs[i] = c at *
    obtain ⟨o1, H1, x1, x2, x3, x4, x5, x6⟩ := OwnE.app1 (ho.more [.cells 0 false [.int .i64 c.1, .int .i64 c.2]]) c.1 c.2 (Nat.zero_le _) (by simp; omega)
    have hbt : ∀ b, blkOf t = some b → b < H.length := fun b hb => (Own.blk ht hb).2
    have hbo : ∀ b, blkOf o = some b → b < H.length := fun b hb => (Own.blk ho hb).2
    have ex : H1[H.length]? = some (.cells 0 false [.int .i64 c.1, .int .i64 c.2]) := by
      rw [x5 H.length (by simp) (fun h => by have := hbo _ h; omega)]; simp
    have ht1 : OwnE nl 0 H1 t ts := Own.keep ht fun b hb hbe => by
      rw [x5 b (by simp; omega) (fun h => hd b h hbe)]; exact List.getElem?_append_left hb
    obtain ⟨t2, H2, y1, y2, y3, y4, y5⟩ := OwnE.pre2 ht1 c.2 c.1 c.1 c.1 (Nat.zero_le _) (by omega)
    have ho2 : OwnE true 0 H2 o1 (cs.take i ++ [c]) := Own.keep x2 fun b hb hbe => y3 b hb
    simp only [List.append_assoc, List.cons_append, List.nil_append, List.length_append, List.length_cons, List.length_nil, Nat.zero_add] at x1
    simp [↓getD_z, ↓getD_s, -List.getD_eq_getElem?_getD, -Int.ofNat_toNat, -getElem?_pos, gz, ↓hid_k, ↓hid_o, ↓hid_q, ↓hid_v, ↓PO_nil, ↓PO_none, ↓PO_grd, ↓PD_nil, ↓PD_none, ↓PD_grd, ↓PDO_N, ↓PDO_X, ↓PDO_call, ↓PDO_calli, ↓PDO_callv, PDX_free, PDX_eq, ↓PStep_N, ↓PStep_X, ↓PStep_call, ↓PStep_calli, PStep_callv, ↓PC_skip, ↓PC_lab, ↓PC_ret, ↓PC_exit, ↓PC_reg, ↓PC_draw, ↓PC_seq, ↓PC_block, ↓PC_loop, ↓PC_scope, ↓PC_cond, ↓thenC_norm, ↓thenC_ret, ↓thenC_exit, ↓blockC_norm, ↓blockC_ret, ↓blockC_exit, ↓loopC_norm, ↓loopC_ret, ↓loopC_exit, ↓endR_ret, ↓endR_norm, resK_none, resK_t, resK_tt, KNO_val, KNO_new, KNO_ite, KNO_map, KXO_some, KXO_ite, KVA_t, KVA_f, KG_skip, KG_tt, KG_ff, KG_tf, KG_ft, KB_true, KB_false, KNOD_val, KNOD_new, KNOD_ite, n_mv, n_pick, n_bin, n_eqB, n_eqN, n_eqS, n_un, n_conv, n_fadd, n_faddV, n_fld1, n_fldN, n_idx, n_idxA, n_idxV, n_idxAV, n_ext, n_lenS, n_lenS0, n_lenV, n_lenT, n_lenA, n_min, n_max, n_build, n_mkfn, n_slc, n_slc0, n_slcV, n_slcA, n_load1, n_loadN, n_load1V, n_loadNV, n_alloc, n_box, n_bsl, n_mksl, n_nilcP, n_nilcV, n_nilcI, n_nilcF, x_store, x_clear0, x_clear, b_add, b_sub, b_mul, b_eql, b_neq, b_lss, b_leq, b_gtr, b_geq, b_and16, unV, ntouch, gather, hide, unhide, evalOpd, applyOuts, int_bne, int_beq, ite_bool, ite_int, one_bool, cells_bool, one_int, cells_int, one_str, cells_str, one_nilp, cells_nilp, one_ptr, cells_ptr, one_nils, cells_nils, one_sl, cells_sl, one_nilf, cells_nilf, one_fn, cells_fn, one_nili, cells_nili, one_mp, cells_mp, one_nilm, cells_nilm, one_iface, cells_iface, one_vs, cells_vs, one_vp, cells_vp, cells_agg, Nat.testBit, setAt_1, setAt_2, closeds_nil, closeds_cons, closed_bool, closed_int, closed_str, closed_nilp, closed_nils, closed_nilm, closed_nilf, closed_nili, closed_agg, closed_tup, closed_vs, closed_vp, closed_iface, closed_fn, closeds_cI, closeds_cE, viewA_closed, viewR_closed, AV.scal, AV.scal0, fillA, repA, part_bool, part_int, part_str, part_nilp, part_ptr, part_nils, part_sl, part_nilm, part_mp, part_nilf, part_fn, part_nili, part_iface, part_agg, part_vs, part_vp, viewA_sl1, vaSl_cells, wrap_0, wrap_1, wrap_2, wrap_m1, set_last, get_last, er21_0, er21_1, er21_2, er21_3, er21_4, er21_5, er21_6, er21_7, er21_8, er21_9, er21_10, er21_12, er21_13, er21_14, er21_15, er21_16, hlen, hl1', hl2', hl1, hl2, i1, g1', g2', r1, r2, x1, ex, y1, hw1, get_at, get_at0, set_at, set_at0]
    refine next_mk (m - 1) (by omega) ⟨i + 1, o1, t2, _, _, H2, false, _, by omega, by rw [hts]; exact ho2, y2, by simp; omega, ?_, fun b h1 h2 => ?_, rfl⟩
    · intro y
      rw [hts]
      simp only [List.mem_cons, List.mem_append, List.mem_nil_iff, or_false]
      rw [hsm y]
      constructor
      · rintro (h | h | ⟨d, h1, h2⟩)
        · exact ⟨c, .inr rfl, .inl h⟩
        · exact ⟨c, .inr rfl, .inr h⟩
        · exact ⟨d, .inl h1, h2⟩
      · rintro ⟨d, h1 | rfl, h2⟩
        · exact .inr (.inr ⟨d, h1, h2⟩)
        · rcases h2 with h2 | h2
          · exact .inl h2
          · exact .inr (.inl h2)
    · have := (Own.blk x2 h1).2
      have := y5 b h2
      omega
  · have hgu : ¬ (i < l.length ∧ i < 200) := fun h => hlt ((hcl2 i).2 h)
    have hic : i = cs.length := by omega
    have htk : cs.take i = cs := List.take_of_length_le (by omega)
    rw [htk] at ho hsm
    have hok2 : ts.all (okEnds N) = true := by
      rw [List.all_eq_true]
      intro y hy
      obtain ⟨c, hc, h⟩ := (hsm y).1 hy
      have := List.all_eq_true.1 hok c hc
      simp only [okEnds, Bool.and_eq_true, decide_eq_true_eq] at this ⊢
      rcases h with rfl | rfl <;> simp only <;> omega
    have hS : ∀ x, x ∈ normsE (ts ++ cs) ↔ x ∈ normsE cs := by
      intro x
      simp only [normsE_mem, List.mem_append]
      constructor
      · rintro ⟨y, h1 | h1, h2, h3⟩
        · obtain ⟨c, hc, h⟩ := (hsm y).1 h1
          rcases h with rfl | rfl
          · exact ⟨c, hc, fun e => h2 e.symm, by rw [h3]; simp only; rw [Int.min_comm, Int.max_comm]⟩
          · exact absurd rfl h2
        · exact ⟨y, h1, h2, h3⟩
      · rintro ⟨y, h1, h2, h3⟩
        exact ⟨y, .inr h1, h2, h3⟩
    have hSe := setE_congr hS
    have hle1 := setE_le cs
    have hle2 := setE_le (ts ++ cs)
    simp only [List.length_append] at hle2
    have k1 : normalE N cs = (N, setE cs, 0) := normalE_ok (by omega) (by omega) hok (by omega)
    have k2 : normalE N (ts ++ cs) = (N, setE cs, 0) := by rw [normalE_ok (by omega) (by omega) (by rw [List.all_append, hok2, hok]; rfl) (by omega), hSe]
    have hok3 : (setE cs).all (okEnds N) = true := by
      rw [List.all_eq_true]
      intro x hx
      have := setE_ends hok x hx
      rw [okEnds, decide_eq_true (by omega), decide_eq_true (by omega)]; rfl
    have k3 : normalE N (setE cs) = (N, setE cs, 0) := by rw [normalE_ok (by omega) (by omega) hok3 (by rw [setE_again]; omega), setE_again]
    obtain ⟨t3, H3, x1, x2, x3, x4, x5⟩ := Own.app (bytes := 16) ht (Own.src ho) (cellsE_length _) (ones_cE _) (Nat.zero_le _) (by omega)
    have hbo : ∀ b, blkOf o = some b → b < H.length := fun b hb => (Own.blk ho hb).2
    have ho3 : OwnE true 0 H3 o cs := Own.keep ho fun b hb hbe => x3 b hb (fun h => hd b hbe h)
    have ht3 : OwnE nl 0 H3 t3 (ts ++ cs) := by rw [OwnE, cellsE_append, List.length_append]; exact x2
    have hd3 : ∀ b, blkOf t3 = some b → blkOf o ≠ some b := fun b h1 h2 => by
      rcases x5 b h1 with h | h
      · exact hd b h2 h
      · have := hbo b h2; omega
    have n1 := (Own.vw ho3).r2 (closeds_cE cs) (.int .i64 N) rfl
    have hFl := frzOf_len H3 o
    have ht4 : OwnE nl 0 (frzOf H3 o) t3 (ts ++ cs) := Own.keep ht3 fun b hb hbe => frzOf_get H3 o (hd3 b hbe)
    generalize frzOf H3 o = F at *
    have iS := isE_r (setE cs)
    have ht5 := Own.vw (ht4.more [.cells 0 false [.int .i64 N, rE (setE cs)]])
    have n2 := ht5.r2 (closeds_cE (ts ++ cs)) (.int .i64 N) rfl
    have hF2l := frzOf_len (F ++ [.cells 0 false [.int .i64 N, rE (setE cs)]]) t3
    have hgF : (frzOf (F ++ [.cells 0 false [.int .i64 N, rE (setE cs)]]) t3)[F.length]? = some (.cells 0 false [.int .i64 N, rE (setE cs)]) := by
      rw [frzOf_get _ _ (fun h => by have := (Own.blk ht4 h).2; omega)]; simp
    generalize frzOf (F ++ [.cells 0 false [.int .i64 N, rE (setE cs)]]) t3 = F2 at *
    have hgJ : ∀ J, (F2 ++ J)[F.length]? = some (.cells 0 false [.int .i64 N, rE (setE cs)]) := fun J => get_more J hgF
    have i1 : IsE (rv true cs.length 2 (cellsE cs)) cs := is_rv (cellsE_length _) (closeds_cE _)
    have i2 : IsE (rv nl (ts ++ cs).length 2 (cellsE (ts ++ cs))) (ts ++ cs) := is_rv (cellsE_length _) (closeds_cE _)
    have c1 := (g.normal N _ cs i1 (by omega)).eq
    have c2 := (g.normal N _ (ts ++ cs) i2 (by simp only [List.length_append]; omega)).eq
    have c3 := (g.normal N _ (setE cs) iS (by omega)).eq
    have c4 := (g.sameG N N _ _ _ _ iS iS (by omega)).eq
    simp only [nR, k1, k2, k3] at c1 c2 c3
    generalize rE (setE cs) = uS at *
    generalize rv true cs.length 2 (cellsE cs) = u1 at *
    generalize rv nl (ts ++ cs).length 2 (cellsE (ts ++ cs)) = u2 at *
    by_cases q1 : i < l.length
    · have q2 : ¬ (i : Int) < 200 := fun h => hgu ⟨q1, by omega⟩
      simp [↓getD_z, ↓getD_s, -List.getD_eq_getElem?_getD, -Int.ofNat_toNat, -getElem?_pos, gz, ↓hid_k, ↓hid_o, ↓hid_q, ↓hid_v, ↓PO_nil, ↓PO_none, ↓PO_grd, ↓PD_nil, ↓PD_none, ↓PD_grd, ↓PDO_N, ↓PDO_X, ↓PDO_call, ↓PDO_calli, ↓PDO_callv, PDX_free, PDX_eq, ↓PStep_N, ↓PStep_X, ↓PStep_call, ↓PStep_calli, PStep_callv, ↓PC_skip, ↓PC_lab, ↓PC_ret, ↓PC_exit, ↓PC_reg, ↓PC_draw, ↓PC_seq, ↓PC_block, ↓PC_loop, ↓PC_scope, ↓PC_cond, ↓thenC_norm, ↓thenC_ret, ↓thenC_exit, ↓blockC_norm, ↓blockC_ret, ↓blockC_exit, ↓loopC_norm, ↓loopC_ret, ↓loopC_exit, ↓endR_ret, ↓endR_norm, resK_none, resK_t, resK_tt, KNO_val, KNO_new, KNO_ite, KNO_map, KXO_some, KXO_ite, KVA_t, KVA_f, KG_skip, KG_tt, KG_ff, KG_tf, KG_ft, KB_true, KB_false, KNOD_val, KNOD_new, KNOD_ite, n_mv, n_pick, n_bin, n_eqB, n_eqN, n_eqS, n_un, n_conv, n_fadd, n_faddV, n_fld1, n_fldN, n_idx, n_idxA, n_idxV, n_idxAV, n_ext, n_lenS, n_lenS0, n_lenV, n_lenT, n_lenA, n_min, n_max, n_build, n_mkfn, n_slc, n_slc0, n_slcV, n_slcA, n_load1, n_loadN, n_load1V, n_loadNV, n_alloc, n_box, n_bsl, n_mksl, n_nilcP, n_nilcV, n_nilcI, n_nilcF, x_store, x_clear0, x_clear, b_add, b_sub, b_mul, b_eql, b_neq, b_lss, b_leq, b_gtr, b_geq, b_and16, unV, ntouch, gather, hide, unhide, evalOpd, applyOuts, int_bne, int_beq, ite_bool, ite_int, one_bool, cells_bool, one_int, cells_int, one_str, cells_str, one_nilp, cells_nilp, one_ptr, cells_ptr, one_nils, cells_nils, one_sl, cells_sl, one_nilf, cells_nilf, one_fn, cells_fn, one_nili, cells_nili, one_mp, cells_mp, one_nilm, cells_nilm, one_iface, cells_iface, one_vs, cells_vs, one_vp, cells_vp, cells_agg, Nat.testBit, setAt_1, setAt_2, closeds_nil, closeds_cons, closed_bool, closed_int, closed_str, closed_nilp, closed_nils, closed_nilm, closed_nilf, closed_nili, closed_agg, closed_tup, closed_vs, closed_vp, closed_iface, closed_fn, closeds_cI, closeds_cE, viewA_closed, viewR_closed, AV.scal, AV.scal0, fillA, repA, part_bool, part_int, part_str, part_nilp, part_ptr, part_nils, part_sl, part_nilm, part_mp, part_nilf, part_fn, part_nili, part_iface, part_agg, part_vs, part_vp, viewA_sl1, vaSl_cells, wrap_0, wrap_1, wrap_2, wrap_m1, set_last, get_last, er21_0, er21_1, er21_2, er21_3, er21_4, er21_5, er21_6, er21_7, er21_8, er21_9, er21_10, er21_12, er21_13, er21_14, er21_15, er21_16, hlen, q1, q2, x1, n1, n2, c1, c2, c3, c4, hgJ, hgF, iS.closed, iS.one, iS.cells, get_at, get_at0, set_at, set_at0, resK, resVs, resV, pack]
    · simp [↓getD_z, ↓getD_s, -List.getD_eq_getElem?_getD, -Int.ofNat_toNat, -getElem?_pos, gz, ↓hid_k, ↓hid_o, ↓hid_q, ↓hid_v, ↓PO_nil, ↓PO_none, ↓PO_grd, ↓PD_nil, ↓PD_none, ↓PD_grd, ↓PDO_N, ↓PDO_X, ↓PDO_call, ↓PDO_calli, ↓PDO_callv, PDX_free, PDX_eq, ↓PStep_N, ↓PStep_X, ↓PStep_call, ↓PStep_calli, PStep_callv, ↓PC_skip, ↓PC_lab, ↓PC_ret, ↓PC_exit, ↓PC_reg, ↓PC_draw, ↓PC_seq, ↓PC_block, ↓PC_loop, ↓PC_scope, ↓PC_cond, ↓thenC_norm, ↓thenC_ret, ↓thenC_exit, ↓blockC_norm, ↓blockC_ret, ↓blockC_exit, ↓loopC_norm, ↓loopC_ret, ↓loopC_exit, ↓endR_ret, ↓endR_norm, resK_none, resK_t, resK_tt, KNO_val, KNO_new, KNO_ite, KNO_map, KXO_some, KXO_ite, KVA_t, KVA_f, KG_skip, KG_tt, KG_ff, KG_tf, KG_ft, KB_true, KB_false, KNOD_val, KNOD_new, KNOD_ite, n_mv, n_pick, n_bin, n_eqB, n_eqN, n_eqS, n_un, n_conv, n_fadd, n_faddV, n_fld1, n_fldN, n_idx, n_idxA, n_idxV, n_idxAV, n_ext, n_lenS, n_lenS0, n_lenV, n_lenT, n_lenA, n_min, n_max, n_build, n_mkfn, n_slc, n_slc0, n_slcV, n_slcA, n_load1, n_loadN, n_load1V, n_loadNV, n_alloc, n_box, n_bsl, n_mksl, n_nilcP, n_nilcV, n_nilcI, n_nilcF, x_store, x_clear0, x_clear, b_add, b_sub, b_mul, b_eql, b_neq, b_lss, b_leq, b_gtr, b_geq, b_and16, unV, ntouch, gather, hide, unhide, evalOpd, applyOuts, int_bne, int_beq, ite_bool, ite_int, one_bool, cells_bool, one_int, cells_int, one_str, cells_str, one_nilp, cells_nilp, one_ptr, cells_ptr, one_nils, cells_nils, one_sl, cells_sl, one_nilf, cells_nilf, one_fn, cells_fn, one_nili, cells_nili, one_mp, cells_mp, one_nilm, cells_nilm, one_iface, cells_iface, one_vs, cells_vs, one_vp, cells_vp, cells_agg, Nat.testBit, setAt_1, setAt_2, closeds_nil, closeds_cons, closed_bool, closed_int, closed_str, closed_nilp, closed_nils, closed_nilm, closed_nilf, closed_nili, closed_agg, closed_tup, closed_vs, closed_vp, closed_iface, closed_fn, closeds_cI, closeds_cE, viewA_closed, viewR_closed, AV.scal, AV.scal0, fillA, repA, part_bool, part_int, part_str, part_nilp, part_ptr, part_nils, part_sl, part_nilm, part_mp, part_nilf, part_fn, part_nili, part_iface, part_agg, part_vs, part_vp, viewA_sl1, vaSl_cells, wrap_0, wrap_1, wrap_2, wrap_m1, set_last, get_last, er21_0, er21_1, er21_2, er21_3, er21_4, er21_5, er21_6, er21_7, er21_8, er21_9, er21_10, er21_12, er21_13, er21_14, er21_15, er21_16, hlen, q1, x1, n1, n2, c1, c2, c3, c4, hgJ, hgF, iS.closed, iS.one, iS.cells, get_at, get_at0, set_at, set_at0, resK, resVs, resV, pack]
end Go.Ai.G
/- GraphSum. -/
namespace Go.Ai.G
open Go.Ai
set_option maxRecDepth 100000
set_option linter.unusedSimpArgs false
set_option linter.unusedVariables false
variable {A : AProg} {φ : Nat → Nat}
theorem er26_0 (φ : Nat → Nat) : r26_0 φ = [
  ⟨0, .N .mv, [.c (.bool false)], none, 0⟩] := Eq.trans rfl rfl
theorem er26_1 (φ : Nat → Nat) : r26_1 φ = [
  ⟨0, .calli true (φ 0), [], none, 0⟩,
  ⟨1, .N .mv, [.l 0], none, 0⟩] := Eq.trans rfl rfl
theorem er26_2 (φ : Nat → Nat) : r26_2 φ = [
  ⟨0, .N .mv, [.n 0], none, 0⟩,
  ⟨1, .N .mv, [.n 1], none, 0⟩,
  ⟨2, .calli false (φ 22), [.l 1, .l 0, .c (.int .i64 50)], none, 0⟩,
  ⟨3, .N (.alloc [.int .i64 0, .nils]), [], none, 0⟩,
  ⟨4, .X (.store 2), [.l 0, .l 1], none, 0⟩] := Eq.trans rfl rfl
theorem er26_3 (φ : Nat → Nat) : r26_3 φ = [
  ⟨0, .N (.loadN 2), [.n 4], none, 0⟩,
  ⟨1, .calli false (φ 12), [.l 0], none, 0⟩,
  ⟨2, .N .mv, [.l 0], none, 0⟩] := Eq.trans rfl rfl
theorem er26_4 (φ : Nat → Nat) : r26_4 φ = [
  ⟨0, .N .mv, [.n 5], none, 0⟩,
  ⟨1, .N .lenS, [.l 0], none, 0⟩,
  ⟨2, .N (.fadd 0), [.n 4], none, 0⟩,
  ⟨3, .N .load1, [.l 0], none, 0⟩,
  ⟨4, .N (.bin .neq), [.l 2, .l 0], none, 0⟩] := Eq.trans rfl rfl
theorem er26_5 (φ : Nat → Nat) : r26_5 φ = [
  ⟨0, .N .mv, [.c (.bool false)], none, 0⟩] := Eq.trans rfl rfl
theorem er26_6 (φ : Nat → Nat) : r26_6 φ = [
  ⟨0, .N .mv, [.c (.int .i64 0)], none, 0⟩] := Eq.trans rfl rfl
theorem er26_7 (φ : Nat → Nat) : r26_7 φ = [
  ⟨0, .N .mv, [.c (.int .i64 0)], none, 0⟩] := Eq.trans rfl rfl
theorem er26_8 (φ : Nat → Nat) : r26_8 φ = [
  ⟨0, .N .mv, [.n 7], none, 0⟩,
  ⟨1, .N (.fadd 0), [.n 4], none, 0⟩,
  ⟨2, .N .load1, [.l 0], none, 0⟩,
  ⟨3, .N (.bin .lss), [.l 2, .l 0], none, 0⟩] := Eq.trans rfl rfl
theorem er26_9 (φ : Nat → Nat) : r26_9 φ = [
  ⟨0, .N (.loadN 2), [.n 4], none, 0⟩,
  ⟨1, .N .mv, [.n 7], none, 0⟩,
  ⟨2, .calli false (φ 9), [.l 1, .l 0], none, 0⟩,
  ⟨3, .N .mv, [.l 0], none, 0⟩] := Eq.trans rfl rfl
theorem er26_10 (φ : Nat → Nat) : r26_10 φ = [
  ⟨0, .N .mv, [.n 8], none, 0⟩,
  ⟨1, .N .lenS, [.l 0], none, 0⟩,
  ⟨2, .N .mv, [.n 5], none, 0⟩,
  ⟨3, .N .mv, [.n 7], none, 0⟩,
  ⟨4, .N (.idx 1), [.l 1, .l 0], none, 0⟩,
  ⟨5, .N .load1, [.l 0], none, 0⟩,
  ⟨6, .N (.bin .neq), [.l 4, .l 0], none, 0⟩] := Eq.trans rfl rfl
theorem er26_11 (φ : Nat → Nat) : r26_11 φ = [
  ⟨0, .N .mv, [.c (.bool false)], none, 0⟩] := Eq.trans rfl rfl
theorem er26_12 (φ : Nat → Nat) : r26_12 φ = [
  ⟨0, .N .mv, [.n 6], none, 0⟩,
  ⟨1, .N .mv, [.n 5], none, 0⟩,
  ⟨2, .N .mv, [.n 7], none, 0⟩,
  ⟨3, .N (.idx 1), [.l 1, .l 0], none, 0⟩,
  ⟨4, .N .load1, [.l 0], none, 0⟩,
  ⟨5, .N (.bin .add), [.l 4, .l 0], none, 0⟩,
  ⟨6, .N .mv, [.l 0], none, 0⟩] := Eq.trans rfl rfl
theorem er26_13 (φ : Nat → Nat) : r26_13 φ = [
  ⟨0, .N .mv, [.c (.int .i64 0)], none, 0⟩] := Eq.trans rfl rfl
theorem er26_14 (φ : Nat → Nat) : r26_14 φ = [
  ⟨0, .N .mv, [.n 9], none, 0⟩,
  ⟨1, .N .mv, [.n 8], none, 0⟩,
  ⟨2, .N .lenS, [.l 0], none, 0⟩,
  ⟨3, .N (.bin .lss), [.l 2, .l 0], none, 0⟩] := Eq.trans rfl rfl
theorem er26_15 (φ : Nat → Nat) : r26_15 φ = [
  ⟨0, .N .mv, [.n 9], none, 0⟩,
  ⟨1, .N (.bin .gtr), [.l 0, .c (.int .i64 0)], none, 1⟩,
  ⟨2, .N .mv, [.l 0], none, 3⟩,
  ⟨3, .N .mv, [.n 8], some (.l 0, true), 7⟩,
  ⟨4, .N .mv, [.n 9], some (.l 1, true), 7⟩,
  ⟨5, .N (.idx 1), [.l 1, .l 0], some (.l 2, true), 31⟩,
  ⟨6, .N .load1, [.l 0], some (.l 3, true), 63⟩,
  ⟨7, .N .mv, [.n 8], some (.l 4, true), 7⟩,
  ⟨8, .N .mv, [.n 9], some (.l 5, true), 7⟩,
  ⟨9, .N (.bin .sub), [.l 0, .c (.int .i64 1)], some (.l 6, true), 263⟩,
  ⟨10, .N (.idx 1), [.l 2, .l 0], some (.l 7, true), 903⟩,
  ⟨11, .N .load1, [.l 0], some (.l 8, true), 1927⟩,
  ⟨12, .N (.bin .leq), [.l 5, .l 0], some (.l 9, true), 4095⟩,
  ⟨13, .N .pick, [.l 10, .l 0, .c (.bool false)], none, 8191⟩,
  ⟨14, .N .mv, [.l 0], none, 16383⟩,
  ⟨15, .N .mv, [.n 8], some (.l 0, false), 32767⟩,
  ⟨16, .N .mv, [.n 9], some (.l 1, false), 32767⟩,
  ⟨17, .N (.idx 1), [.l 1, .l 0], some (.l 2, false), 131071⟩,
  ⟨18, .N .load1, [.l 0], some (.l 3, false), 262143⟩,
  ⟨19, .N .mv, [.n 7], some (.l 4, false), 32767⟩,
  ⟨20, .N (.bin .eql), [.l 1, .l 0], some (.l 5, false), 1048575⟩,
  ⟨21, .N .pick, [.l 6, .c (.bool true), .l 0], none, 2097151⟩,
  ⟨22, .N .mv, [.l 0], none, 4194303⟩,
  ⟨23, .N (.loadN 2), [.n 4], some (.l 0, false), 8388607⟩,
  ⟨24, .N .mv, [.n 8], some (.l 1, false), 8388607⟩,
  ⟨25, .N .mv, [.n 9], some (.l 2, false), 8388607⟩,
  ⟨26, .N (.idx 1), [.l 1, .l 0], some (.l 3, false), 58720255⟩,
  ⟨27, .N .load1, [.l 0], some (.l 4, false), 125829119⟩,
  ⟨29, .N .mv, [.n 7], some (.l 5, false), 8388607⟩,
  ⟨28, .calli false (φ 9), [.l 5, .l 1], some (.l 6, false), 268435455⟩,
  ⟨30, .calli true (φ 25), [.l 0, .l 1], some (.l 7, false), 1073741823⟩,
  ⟨31, .N (.un .not), [.l 0], some (.l 8, false), 2147483647⟩,
  ⟨32, .N .pick, [.l 9, .c (.bool true), .l 0], none, 4294967295⟩] := Eq.trans rfl rfl
theorem er26_16 (φ : Nat → Nat) : r26_16 φ = [
  ⟨0, .N .mv, [.c (.bool false)], none, 0⟩] := Eq.trans rfl rfl
theorem er26_17 (φ : Nat → Nat) : r26_17 φ = [
  ⟨0, .N .mv, [.n 9], none, 0⟩,
  ⟨1, .N (.bin .add), [.l 0, .c (.int .i64 1)], none, 0⟩,
  ⟨2, .N .mv, [.l 0], none, 0⟩] := Eq.trans rfl rfl
theorem er26_19 (φ : Nat → Nat) : r26_19 φ = [
  ⟨0, .N .mv, [.n 7], none, 0⟩,
  ⟨1, .N (.bin .add), [.l 0, .c (.int .i64 1)], none, 0⟩,
  ⟨2, .N .mv, [.l 0], none, 0⟩] := Eq.trans rfl rfl
theorem er26_21 (φ : Nat → Nat) : r26_21 φ = [
  ⟨0, .N .mv, [.n 3], none, 0⟩,
  ⟨1, .N .mv, [.l 0], none, 0⟩,
  ⟨2, .N .mv, [.n 6], some (.l 0, true), 0⟩,
  ⟨3, .N (.fadd 1), [.n 4], some (.l 1, true), 0⟩,
  ⟨4, .N .load1, [.l 0], some (.l 2, true), 0⟩,
  ⟨5, .N .lenS, [.l 0], some (.l 3, true), 0⟩,
  ⟨6, .N (.bin .mul), [.c (.int .i64 2), .l 0], some (.l 4, true), 0⟩,
  ⟨7, .N (.bin .eql), [.l 4, .l 0], some (.l 5, true), 0⟩,
  ⟨8, .N .pick, [.l 6, .l 0, .c (.bool false)], none, 0⟩,
  ⟨9, .N .mv, [.l 0], none, 0⟩] := Eq.trans rfl rfl
theorem nbo_strict (v : Int) (es : List Ed) (hp : es.Pairwise ltE) (hx : ∀ x ∈ es, x.1 < x.2) : (es.flatMap (nbo v)).Pairwise (· < ·) := by
  rw [List.pairwise_flatMap]
  constructor
  · intro x hm
    have := hx x hm
    unfold nbo
    by_cases h1 : x.2 = v
    · rw [if_pos h1, if_neg (by omega)]; simp
    · rw [if_neg h1]; split <;> simp
  · refine List.Pairwise.imp_of_mem ?_ hp
    intro x y hmx hmy hl p hp q hq
    have h1 := hx x hmx
    have h2 := hx y hmy
    unfold ltE at hl
    simp only [nbo, List.mem_append] at hp hq
    by_cases a1 : x.2 = v <;> by_cases a2 : x.1 = v <;> by_cases a3 : y.2 = v <;> by_cases a4 : y.1 = v <;> simp [a1, a2, a3, a4] at hp hq <;> omega
theorem nb_mem {n : Int} {es : List Ed} (hR : rightE n es = true) (v w : Int) : w ∈ sortI (nbR v es) ↔ (v, w) ∈ es ∨ (w, v) ∈ es := by
  have := has_eq n es v w
  unfold nearI hasE at this
  rw [hR, if_pos rfl, near_sort v hR, Bool.true_and] at this
  rw [← List.contains_iff_mem, this]
  simp
theorem nb_strict {n : Int} {es : List Ed} (hR : rightE n es = true) (v : Int) : (sortI (nbR v es)).Pairwise (· < ·) := by
  rw [← near_sort v hR, nbs_all v es (right_strict hR) (right_lt hR)]
  exact nbo_strict v es (right_strict hR) (right_lt hR)
/-- The degrees of the first k vertices, together. -/
def sumD (es : List Ed) : Nat → Nat
  | 0 => 0
  | k + 1 => sumD es k + (nbR (k : Int) es).length
theorem sumD_cons (x : Ed) (l : List Ed) (h0 : 0 ≤ x.1) (h1 : 0 ≤ x.2) : ∀ k : Nat, sumD (x :: l) k = sumD l k + (if x.1 < k then 1 else 0) + (if x.2 < k then 1 else 0)
  | 0 => by rw [if_neg (by omega), if_neg (by omega)]; rfl
  | k + 1 => by
    have e : (nbR (k : Int) (x :: l)).length = (if x.1 = (k : Int) then 1 else 0) + (if x.2 = (k : Int) then 1 else 0) + (nbR (k : Int) l).length := by
      simp only [nbR, List.flatMap_cons, List.length_append, nbr]
      congr 1
      congr 1 <;> split <;> rfl
    rw [sumD, sumD, sumD_cons x l h0 h1 k, e]
    split <;> split <;> split <;> split <;> split <;> split <;> omega
theorem sumD_all {n : Int} (hn : 0 ≤ n) : ∀ (es : List Ed), (∀ x ∈ es, 0 ≤ x.1 ∧ x.1 < x.2 ∧ x.2 < n) → sumD es n.toNat = 2 * es.length
  | [], _ => by
    have : ∀ k, sumD [] k = 0 := by intro k; induction k with
      | zero => rfl
      | succ k ih => rw [sumD, ih]; rfl
    rw [this]; rfl
  | x :: l, h => by
    have hx := h x (List.mem_cons_self ..)
    rw [sumD_cons x l (by omega) (by omega), sumD_all hn l (fun y hy => h y (List.mem_cons_of_mem _ hy)), if_pos (by omega), if_pos (by omega), List.length_cons]; omega
theorem sumD_le (es : List Ed) : ∀ {j k : Nat}, j ≤ k → sumD es j ≤ sumD es k := by
  intro j k h
  induction h with
  | refl => exact Nat.le_refl _
  | step _ ih => rw [sumD]; omega
theorem w_GraphSum (h : Has A (φ 26) (f26 φ)) (hS : PVal A (φ 0) [] (.bool true)) (g : GC A φ) (n : Int) (v : AV) (l : List Ed) (hv : IsE v l) :
    PVal A (φ 26) [.int .i64 n, v] (.bool true) := by
  have hsh := hS.eq
  have hcl := hv.closed
  have c0 := (g.any n 50 v l hv (by omega) (by omega)).eq
  have hR := any_right n l (most := 50) (by omega) (by omega)
  have hEl := anyE_len n 50 l
  have hNr := anyN_range (n := n) (most := 50) (by omega)
  generalize anyN n 50 = N at *
  generalize anyE n 50 l = E at *
  have iE := isE_r E
  have c7 := (g.degrees N _ E iE).eq
  rw [hR, if_pos rfl] at c7
  have c5 : ∀ a : Int, ∀ K, PCallV A (φ 9) [gV N (rE E), .int .i64 a] K = K (rI (sortI (nbR a E))) := fun a => by
    have := (g.near N a _ E iE).eq
    rwa [hR, if_pos rfl] at this
  have iD := isI_v (degs N E)
  have hDl : (degs N E).length = N.toNat := by simp [degs]
  have hDlen := iD.len
  rw [hDl] at hDlen
  have hNN : ((N.toNat : Nat) : Int) = N := by omega
  rw [hNN] at hDlen
  have hDg : ∀ (k : Nat) (hk : k < (degs N E).length), (degs N E)[k] = ((nbR (k : Int) E).length : Int) := fun k hk => by simp [degs]
  have hDa := fun (k : Nat) (hk : k < (degs N E).length) => iD.at hk
  have hsum := sumD_all hNr.1 E (right_ends hR)
  have hElen := iE.len
  generalize hDe : vI (degs N E) = D at *
  generalize hUe : rE E = U at *
  refine pval_has h rfl ?_
  simp only [l26_18, l26_20, b26, f26]
  simp [↓getD_z, ↓getD_s, -List.getD_eq_getElem?_getD, -Int.ofNat_toNat, -getElem?_pos, gz, ↓hid_k, ↓hid_o, ↓hid_q, ↓hid_v, ↓PO_nil, ↓PO_none, ↓PO_grd, ↓PD_nil, ↓PD_none, ↓PD_grd, ↓PDO_N, ↓PDO_X, ↓PDO_call, ↓PDO_calli, ↓PDO_callv, PDX_free, PDX_eq, ↓PStep_N, ↓PStep_X, ↓PStep_call, ↓PStep_calli, PStep_callv, ↓PC_skip, ↓PC_lab, ↓PC_ret, ↓PC_exit, ↓PC_reg, ↓PC_draw, ↓PC_seq, ↓PC_block, ↓PC_loop, ↓PC_scope, ↓PC_cond, ↓thenC_norm, ↓thenC_ret, ↓thenC_exit, ↓blockC_norm, ↓blockC_ret, ↓blockC_exit, ↓loopC_norm, ↓loopC_ret, ↓loopC_exit, ↓endR_ret, ↓endR_norm, resK_none, resK_t, resK_tt, KNO_val, KNO_new, KNO_ite, KNO_map, KXO_some, KXO_ite, KVA_t, KVA_f, KG_skip, KG_tt, KG_ff, KG_tf, KG_ft, KB_true, KB_false, KNOD_val, KNOD_new, KNOD_ite, n_mv, n_pick, n_bin, n_eqB, n_eqN, n_eqS, n_un, n_conv, n_fadd, n_faddV, n_fld1, n_fldN, n_idx, n_idxA, n_idxV, n_idxAV, n_ext, n_lenS, n_lenS0, n_lenV, n_lenT, n_lenA, n_min, n_max, n_build, n_mkfn, n_slc, n_slc0, n_slcV, n_slcA, n_load1, n_loadN, n_load1V, n_loadNV, n_alloc, n_box, n_bsl, n_mksl, n_nilcP, n_nilcV, n_nilcI, n_nilcF, x_store, x_clear0, x_clear, b_add, b_sub, b_mul, b_eql, b_neq, b_lss, b_leq, b_gtr, b_geq, b_and16, unV, ntouch, gather, hide, unhide, evalOpd, applyOuts, int_bne, int_beq, ite_bool, ite_int, one_bool, cells_bool, one_int, cells_int, one_str, cells_str, one_nilp, cells_nilp, one_ptr, cells_ptr, one_nils, cells_nils, one_sl, cells_sl, one_nilf, cells_nilf, one_fn, cells_fn, one_nili, cells_nili, one_mp, cells_mp, one_nilm, cells_nilm, one_iface, cells_iface, one_vs, cells_vs, one_vp, cells_vp, cells_agg, Nat.testBit, setAt_1, setAt_2, closeds_nil, closeds_cons, closed_bool, closed_int, closed_str, closed_nilp, closed_nils, closed_nilm, closed_nilf, closed_nili, closed_agg, closed_tup, closed_vs, closed_vp, closed_iface, closed_fn, closeds_cI, closeds_cE, viewA_closed, viewR_closed, AV.scal, AV.scal0, fillA, repA, part_bool, part_int, part_str, part_nilp, part_ptr, part_nils, part_sl, part_nilm, part_mp, part_nilf, part_fn, part_nili, part_iface, part_agg, part_vs, part_vp, viewA_sl1, vaSl_cells, wrap_0, wrap_1, wrap_2, wrap_m1, set_last, get_last, er26_0, er26_1, er26_2, er26_3, er26_4, er26_5, er26_6, er26_7, er26_8, er26_9, er26_10, er26_11, er26_12, er26_13, er26_14, er26_15, er26_16, er26_17, er26_19, er26_21, hsh, hcl, c0, c7, hDlen, iE.closed, iE.one, iE.cells, iD.closed, iD.one]
  refine pc_loopI (fun m st => ∃ (k : Nat) (nr iv p11 p12 p13 p14 : AV), k + m = N.toNat ∧ st = ([.int .i64 n, v, .bool false, .bool true, .ptr 0 0 0, D, .int .i64 (sumD E k), .int .i64 k, nr, iv, .bool false, p11, p12, p13, p14], [.cells 0 false [.int .i64 N, U]])) N.toNat ⟨0, _, _, _, _, _, _, by simp, rfl⟩ ?_
  rintro m st ⟨k, nr, iv, p11, p12, p13, p14, hk, rfl⟩
  by_cases hlt : k < N.toNat
  · have hkN : (k : Int) < N := by omega
    obtain ⟨d1, d2⟩ := hDa k (by omega)
    rw [hDg k (by omega)] at d2
    have hle : sumD E (k + 1) ≤ 600 := by
      have := sumD_le E (show k + 1 ≤ N.toNat by omega)
      omega
    have hse : (sumD E k : Int) + ((nbR (k : Int) E).length : Int) = (sumD E (k + 1) : Nat) := by rw [sumD]; omega
    have hsw : IntKind.i64.wrap ((sumD E k : Int) + ((nbR (k : Int) E).length : Int)) = (sumD E (k + 1) : Nat) := by rw [hse]; exact wrap_in (by omega) (by omega)
    have hkw := wrap1 hlt (by omega)
    have c5k := c5 k
    have iW := isI_r (sortI (nbR (k : Int) E))
    have hWl := iW.len
    rw [sortI_len] at hWl
    have hWL : (sortI (nbR (k : Int) E)).length = (nbR (k : Int) E).length := sortI_len _
    have hWs := nb_strict hR (k : Int)
    have hWm := fun w => nb_mem hR (k : Int) w
    generalize rI (sortI (nbR (k : Int) E)) = W at *
    generalize sortI (nbR (k : Int) E) = nb at *
    simp [↓getD_z, ↓getD_s, -List.getD_eq_getElem?_getD, -Int.ofNat_toNat, -getElem?_pos, gz, ↓hid_k, ↓hid_o, ↓hid_q, ↓hid_v, ↓PO_nil, ↓PO_none, ↓PO_grd, ↓PD_nil, ↓PD_none, ↓PD_grd, ↓PDO_N, ↓PDO_X, ↓PDO_call, ↓PDO_calli, ↓PDO_callv, PDX_free, PDX_eq, ↓PStep_N, ↓PStep_X, ↓PStep_call, ↓PStep_calli, PStep_callv, ↓PC_skip, ↓PC_lab, ↓PC_ret, ↓PC_exit, ↓PC_reg, ↓PC_draw, ↓PC_seq, ↓PC_block, ↓PC_loop, ↓PC_scope, ↓PC_cond, ↓thenC_norm, ↓thenC_ret, ↓thenC_exit, ↓blockC_norm, ↓blockC_ret, ↓blockC_exit, ↓loopC_norm, ↓loopC_ret, ↓loopC_exit, ↓endR_ret, ↓endR_norm, resK_none, resK_t, resK_tt, KNO_val, KNO_new, KNO_ite, KNO_map, KXO_some, KXO_ite, KVA_t, KVA_f, KG_skip, KG_tt, KG_ff, KG_tf, KG_ft, KB_true, KB_false, KNOD_val, KNOD_new, KNOD_ite, n_mv, n_pick, n_bin, n_eqB, n_eqN, n_eqS, n_un, n_conv, n_fadd, n_faddV, n_fld1, n_fldN, n_idx, n_idxA, n_idxV, n_idxAV, n_ext, n_lenS, n_lenS0, n_lenV, n_lenT, n_lenA, n_min, n_max, n_build, n_mkfn, n_slc, n_slc0, n_slcV, n_slcA, n_load1, n_loadN, n_load1V, n_loadNV, n_alloc, n_box, n_bsl, n_mksl, n_nilcP, n_nilcV, n_nilcI, n_nilcF, x_store, x_clear0, x_clear, b_add, b_sub, b_mul, b_eql, b_neq, b_lss, b_leq, b_gtr, b_geq, b_and16, unV, ntouch, gather, hide, unhide, evalOpd, applyOuts, int_bne, int_beq, ite_bool, ite_int, one_bool, cells_bool, one_int, cells_int, one_str, cells_str, one_nilp, cells_nilp, one_ptr, cells_ptr, one_nils, cells_nils, one_sl, cells_sl, one_nilf, cells_nilf, one_fn, cells_fn, one_nili, cells_nili, one_mp, cells_mp, one_nilm, cells_nilm, one_iface, cells_iface, one_vs, cells_vs, one_vp, cells_vp, cells_agg, Nat.testBit, setAt_1, setAt_2, closeds_nil, closeds_cons, closed_bool, closed_int, closed_str, closed_nilp, closed_nils, closed_nilm, closed_nilf, closed_nili, closed_agg, closed_tup, closed_vs, closed_vp, closed_iface, closed_fn, closeds_cI, closeds_cE, viewA_closed, viewR_closed, AV.scal, AV.scal0, fillA, repA, part_bool, part_int, part_str, part_nilp, part_ptr, part_nils, part_sl, part_nilm, part_mp, part_nilf, part_fn, part_nili, part_iface, part_agg, part_vs, part_vp, viewA_sl1, vaSl_cells, wrap_0, wrap_1, wrap_2, wrap_m1, set_last, get_last, er26_0, er26_1, er26_2, er26_3, er26_4, er26_5, er26_6, er26_7, er26_8, er26_9, er26_10, er26_11, er26_12, er26_13, er26_14, er26_15, er26_16, er26_17, er26_19, er26_21, hkN, c5k, hWl, d1, d2, hsw, iE.closed, iW.closed, iW.one]
    refine pc_loopI (fun m st => ∃ (i : Nat) (q13 q14 : AV), i + m = nb.length ∧ st = ([.int .i64 n, v, .bool false, .bool true, .ptr 0 0 0, D, .int .i64 (sumD E (k + 1)), .int .i64 k, W, .int .i64 i, .bool false, .bool true, .bool false, q13, q14], [.cells 0 false [.int .i64 N, U]])) nb.length ⟨0, _, _, by simp, rfl⟩ ?_
    rintro m2 st2 ⟨i, q13, q14, hi, rfl⟩
    by_cases hil : i < nb.length
    · have hil' : (i : Int) < ((nbR (k : Int) E).length : Int) := by omega
      obtain ⟨w1, w2⟩ := iW.at hil
      have hmem := (hWm nb[i]).1 (List.getElem_mem hil)
      have hne : ¬ nb[i] = (k : Int) := by
        intro e
        rw [e] at hmem
        rcases hmem with hm | hm <;> (have := right_lt hR _ hm; simp at this)
      have c5i := c5 nb[i]
      have hin : (k : Int) ∈ sortI (nbR nb[i] E) := (nb_mem hR nb[i] k).2 hmem.symm
      have iV := isI_r (sortI (nbR nb[i] E))
      have hVl : (sortI (nbR nb[i] E)).length < 1000000000000 := by rw [sortI_len]; have := nbR_len nb[i] E; omega
      have c6 := (g.rin _ _ (k : Int) iV hVl).eq
      rw [decide_eq_true hin] at c6
      have hiw := wrap1 hil (by have := nbR_len (k : Int) E; omega)
      generalize rI (sortI (nbR nb[i] E)) = V at *
      by_cases h0 : i = 0
      · subst h0
        have hil0 : 0 < (nbR (k : Int) E).length := by omega
        have w1' : ∀ kk rd, nstep (.idx 1) [W, .int kk 0] rd = some (.val (.vp (cI nb) 0)) := w1
        have hiw' : IntKind.i64.wrap 1 = 1 := rfl
        simp [↓getD_z, ↓getD_s, -List.getD_eq_getElem?_getD, -Int.ofNat_toNat, -getElem?_pos, gz, ↓hid_k, ↓hid_o, ↓hid_q, ↓hid_v, ↓PO_nil, ↓PO_none, ↓PO_grd, ↓PD_nil, ↓PD_none, ↓PD_grd, ↓PDO_N, ↓PDO_X, ↓PDO_call, ↓PDO_calli, ↓PDO_callv, PDX_free, PDX_eq, ↓PStep_N, ↓PStep_X, ↓PStep_call, ↓PStep_calli, PStep_callv, ↓PC_skip, ↓PC_lab, ↓PC_ret, ↓PC_exit, ↓PC_reg, ↓PC_draw, ↓PC_seq, ↓PC_block, ↓PC_loop, ↓PC_scope, ↓PC_cond, ↓thenC_norm, ↓thenC_ret, ↓thenC_exit, ↓blockC_norm, ↓blockC_ret, ↓blockC_exit, ↓loopC_norm, ↓loopC_ret, ↓loopC_exit, ↓endR_ret, ↓endR_norm, resK_none, resK_t, resK_tt, KNO_val, KNO_new, KNO_ite, KNO_map, KXO_some, KXO_ite, KVA_t, KVA_f, KG_skip, KG_tt, KG_ff, KG_tf, KG_ft, KB_true, KB_false, KNOD_val, KNOD_new, KNOD_ite, n_mv, n_pick, n_bin, n_eqB, n_eqN, n_eqS, n_un, n_conv, n_fadd, n_faddV, n_fld1, n_fldN, n_idx, n_idxA, n_idxV, n_idxAV, n_ext, n_lenS, n_lenS0, n_lenV, n_lenT, n_lenA, n_min, n_max, n_build, n_mkfn, n_slc, n_slc0, n_slcV, n_slcA, n_load1, n_loadN, n_load1V, n_loadNV, n_alloc, n_box, n_bsl, n_mksl, n_nilcP, n_nilcV, n_nilcI, n_nilcF, x_store, x_clear0, x_clear, b_add, b_sub, b_mul, b_eql, b_neq, b_lss, b_leq, b_gtr, b_geq, b_and16, unV, ntouch, gather, hide, unhide, evalOpd, applyOuts, int_bne, int_beq, ite_bool, ite_int, one_bool, cells_bool, one_int, cells_int, one_str, cells_str, one_nilp, cells_nilp, one_ptr, cells_ptr, one_nils, cells_nils, one_sl, cells_sl, one_nilf, cells_nilf, one_fn, cells_fn, one_nili, cells_nili, one_mp, cells_mp, one_nilm, cells_nilm, one_iface, cells_iface, one_vs, cells_vs, one_vp, cells_vp, cells_agg, Nat.testBit, setAt_1, setAt_2, closeds_nil, closeds_cons, closed_bool, closed_int, closed_str, closed_nilp, closed_nils, closed_nilm, closed_nilf, closed_nili, closed_agg, closed_tup, closed_vs, closed_vp, closed_iface, closed_fn, closeds_cI, closeds_cE, viewA_closed, viewR_closed, AV.scal, AV.scal0, fillA, repA, part_bool, part_int, part_str, part_nilp, part_ptr, part_nils, part_sl, part_nilm, part_mp, part_nilf, part_fn, part_nili, part_iface, part_agg, part_vs, part_vp, viewA_sl1, vaSl_cells, wrap_0, wrap_1, wrap_2, wrap_m1, set_last, get_last, er26_0, er26_1, er26_2, er26_3, er26_4, er26_5, er26_6, er26_7, er26_8, er26_9, er26_10, er26_11, er26_12, er26_13, er26_14, er26_15, er26_16, er26_17, er26_19, er26_21, hWl, hil0, w1', hiw', w2, hne, c5i, c6, iE.closed, iV.closed, iV.one]
        exact next_mk (m2 - 1) (by omega) ⟨0 + 1, _, _, by omega, rfl⟩
      · have h0' : 0 < (i : Int) := by omega
        have hi1 : i - 1 < nb.length := by omega
        obtain ⟨u1, u2⟩ := iW.at hi1
        have hiw1 : IntKind.i64.wrap ((i : Int) - 1) = ((i - 1 : Nat) : Int) := by
          have := nbR_len (k : Int) E
          rw [wrap_in (by omega) (by omega)]; omega
        have hst : nb[i - 1] < nb[i] := List.pairwise_iff_getElem.1 hWs (i - 1) i hi1 hil (by omega)
        have hst' : ¬ nb[i] ≤ nb[i - 1] := by omega
        have hilN : i < (nbR (k : Int) E).length := by omega
        have h0n : 0 < i := by omega
        simp [↓getD_z, ↓getD_s, -List.getD_eq_getElem?_getD, -Int.ofNat_toNat, -getElem?_pos, gz, ↓hid_k, ↓hid_o, ↓hid_q, ↓hid_v, ↓PO_nil, ↓PO_none, ↓PO_grd, ↓PD_nil, ↓PD_none, ↓PD_grd, ↓PDO_N, ↓PDO_X, ↓PDO_call, ↓PDO_calli, ↓PDO_callv, PDX_free, PDX_eq, ↓PStep_N, ↓PStep_X, ↓PStep_call, ↓PStep_calli, PStep_callv, ↓PC_skip, ↓PC_lab, ↓PC_ret, ↓PC_exit, ↓PC_reg, ↓PC_draw, ↓PC_seq, ↓PC_block, ↓PC_loop, ↓PC_scope, ↓PC_cond, ↓thenC_norm, ↓thenC_ret, ↓thenC_exit, ↓blockC_norm, ↓blockC_ret, ↓blockC_exit, ↓loopC_norm, ↓loopC_ret, ↓loopC_exit, ↓endR_ret, ↓endR_norm, resK_none, resK_t, resK_tt, KNO_val, KNO_new, KNO_ite, KNO_map, KXO_some, KXO_ite, KVA_t, KVA_f, KG_skip, KG_tt, KG_ff, KG_tf, KG_ft, KB_true, KB_false, KNOD_val, KNOD_new, KNOD_ite, n_mv, n_pick, n_bin, n_eqB, n_eqN, n_eqS, n_un, n_conv, n_fadd, n_faddV, n_fld1, n_fldN, n_idx, n_idxA, n_idxV, n_idxAV, n_ext, n_lenS, n_lenS0, n_lenV, n_lenT, n_lenA, n_min, n_max, n_build, n_mkfn, n_slc, n_slc0, n_slcV, n_slcA, n_load1, n_loadN, n_load1V, n_loadNV, n_alloc, n_box, n_bsl, n_mksl, n_nilcP, n_nilcV, n_nilcI, n_nilcF, x_store, x_clear0, x_clear, b_add, b_sub, b_mul, b_eql, b_neq, b_lss, b_leq, b_gtr, b_geq, b_and16, unV, ntouch, gather, hide, unhide, evalOpd, applyOuts, int_bne, int_beq, ite_bool, ite_int, one_bool, cells_bool, one_int, cells_int, one_str, cells_str, one_nilp, cells_nilp, one_ptr, cells_ptr, one_nils, cells_nils, one_sl, cells_sl, one_nilf, cells_nilf, one_fn, cells_fn, one_nili, cells_nili, one_mp, cells_mp, one_nilm, cells_nilm, one_iface, cells_iface, one_vs, cells_vs, one_vp, cells_vp, cells_agg, Nat.testBit, setAt_1, setAt_2, closeds_nil, closeds_cons, closed_bool, closed_int, closed_str, closed_nilp, closed_nils, closed_nilm, closed_nilf, closed_nili, closed_agg, closed_tup, closed_vs, closed_vp, closed_iface, closed_fn, closeds_cI, closeds_cE, viewA_closed, viewR_closed, AV.scal, AV.scal0, fillA, repA, part_bool, part_int, part_str, part_nilp, part_ptr, part_nils, part_sl, part_nilm, part_mp, part_nilf, part_fn, part_nili, part_iface, part_agg, part_vs, part_vp, viewA_sl1, vaSl_cells, wrap_0, wrap_1, wrap_2, wrap_m1, set_last, get_last, er26_0, er26_1, er26_2, er26_3, er26_4, er26_5, er26_6, er26_7, er26_8, er26_9, er26_10, er26_11, er26_12, er26_13, er26_14, er26_15, er26_16, er26_17, er26_19, er26_21, hWl, hil', hilN, h0n, w1, w2, u1, u2, h0', hiw1, hst', hne, c5i, c6, iE.closed, iV.closed, iV.one, hiw]
        exact next_mk (m2 - 1) (by omega) ⟨i + 1, _, _, by omega, rfl⟩
    · have hil' : ¬ (i : Int) < ((nbR (k : Int) E).length : Int) := by omega
      have hilN : ¬ i < (nbR (k : Int) E).length := by omega
      simp [↓getD_z, ↓getD_s, -List.getD_eq_getElem?_getD, -Int.ofNat_toNat, -getElem?_pos, gz, ↓hid_k, ↓hid_o, ↓hid_q, ↓hid_v, ↓PO_nil, ↓PO_none, ↓PO_grd, ↓PD_nil, ↓PD_none, ↓PD_grd, ↓PDO_N, ↓PDO_X, ↓PDO_call, ↓PDO_calli, ↓PDO_callv, PDX_free, PDX_eq, ↓PStep_N, ↓PStep_X, ↓PStep_call, ↓PStep_calli, PStep_callv, ↓PC_skip, ↓PC_lab, ↓PC_ret, ↓PC_exit, ↓PC_reg, ↓PC_draw, ↓PC_seq, ↓PC_block, ↓PC_loop, ↓PC_scope, ↓PC_cond, ↓thenC_norm, ↓thenC_ret, ↓thenC_exit, ↓blockC_norm, ↓blockC_ret, ↓blockC_exit, ↓loopC_norm, ↓loopC_ret, ↓loopC_exit, ↓endR_ret, ↓endR_norm, resK_none, resK_t, resK_tt, KNO_val, KNO_new, KNO_ite, KNO_map, KXO_some, KXO_ite, KVA_t, KVA_f, KG_skip, KG_tt, KG_ff, KG_tf, KG_ft, KB_true, KB_false, KNOD_val, KNOD_new, KNOD_ite, n_mv, n_pick, n_bin, n_eqB, n_eqN, n_eqS, n_un, n_conv, n_fadd, n_faddV, n_fld1, n_fldN, n_idx, n_idxA, n_idxV, n_idxAV, n_ext, n_lenS, n_lenS0, n_lenV, n_lenT, n_lenA, n_min, n_max, n_build, n_mkfn, n_slc, n_slc0, n_slcV, n_slcA, n_load1, n_loadN, n_load1V, n_loadNV, n_alloc, n_box, n_bsl, n_mksl, n_nilcP, n_nilcV, n_nilcI, n_nilcF, x_store, x_clear0, x_clear, b_add, b_sub, b_mul, b_eql, b_neq, b_lss, b_leq, b_gtr, b_geq, b_and16, unV, ntouch, gather, hide, unhide, evalOpd, applyOuts, int_bne, int_beq, ite_bool, ite_int, one_bool, cells_bool, one_int, cells_int, one_str, cells_str, one_nilp, cells_nilp, one_ptr, cells_ptr, one_nils, cells_nils, one_sl, cells_sl, one_nilf, cells_nilf, one_fn, cells_fn, one_nili, cells_nili, one_mp, cells_mp, one_nilm, cells_nilm, one_iface, cells_iface, one_vs, cells_vs, one_vp, cells_vp, cells_agg, Nat.testBit, setAt_1, setAt_2, closeds_nil, closeds_cons, closed_bool, closed_int, closed_str, closed_nilp, closed_nils, closed_nilm, closed_nilf, closed_nili, closed_agg, closed_tup, closed_vs, closed_vp, closed_iface, closed_fn, closeds_cI, closeds_cE, viewA_closed, viewR_closed, AV.scal, AV.scal0, fillA, repA, part_bool, part_int, part_str, part_nilp, part_ptr, part_nils, part_sl, part_nilm, part_mp, part_nilf, part_fn, part_nili, part_iface, part_agg, part_vs, part_vp, viewA_sl1, vaSl_cells, wrap_0, wrap_1, wrap_2, wrap_m1, set_last, get_last, er26_0, er26_1, er26_2, er26_3, er26_4, er26_5, er26_6, er26_7, er26_8, er26_9, er26_10, er26_11, er26_12, er26_13, er26_14, er26_15, er26_16, er26_17, er26_19, er26_21, hWl, hil', hilN, hkw]
      exact next_mk (m - 1) (by omega) ⟨k + 1, _, _, _, _, _, _, by omega, rfl⟩
  · have hkN : ¬ (k : Int) < N := by omega
    have hke : k = N.toNat := by omega
    subst hke
    rw [hsum]
    have hmw : IntKind.i64.wrap (2 * (E.length : Int)) = 2 * (E.length : Int) := wrap_in (by omega) (by omega)
    simp [↓getD_z, ↓getD_s, -List.getD_eq_getElem?_getD, -Int.ofNat_toNat, -getElem?_pos, gz, ↓hid_k, ↓hid_o, ↓hid_q, ↓hid_v, ↓PO_nil, ↓PO_none, ↓PO_grd, ↓PD_nil, ↓PD_none, ↓PD_grd, ↓PDO_N, ↓PDO_X, ↓PDO_call, ↓PDO_calli, ↓PDO_callv, PDX_free, PDX_eq, ↓PStep_N, ↓PStep_X, ↓PStep_call, ↓PStep_calli, PStep_callv, ↓PC_skip, ↓PC_lab, ↓PC_ret, ↓PC_exit, ↓PC_reg, ↓PC_draw, ↓PC_seq, ↓PC_block, ↓PC_loop, ↓PC_scope, ↓PC_cond, ↓thenC_norm, ↓thenC_ret, ↓thenC_exit, ↓blockC_norm, ↓blockC_ret, ↓blockC_exit, ↓loopC_norm, ↓loopC_ret, ↓loopC_exit, ↓endR_ret, ↓endR_norm, resK_none, resK_t, resK_tt, KNO_val, KNO_new, KNO_ite, KNO_map, KXO_some, KXO_ite, KVA_t, KVA_f, KG_skip, KG_tt, KG_ff, KG_tf, KG_ft, KB_true, KB_false, KNOD_val, KNOD_new, KNOD_ite, n_mv, n_pick, n_bin, n_eqB, n_eqN, n_eqS, n_un, n_conv, n_fadd, n_faddV, n_fld1, n_fldN, n_idx, n_idxA, n_idxV, n_idxAV, n_ext, n_lenS, n_lenS0, n_lenV, n_lenT, n_lenA, n_min, n_max, n_build, n_mkfn, n_slc, n_slc0, n_slcV, n_slcA, n_load1, n_loadN, n_load1V, n_loadNV, n_alloc, n_box, n_bsl, n_mksl, n_nilcP, n_nilcV, n_nilcI, n_nilcF, x_store, x_clear0, x_clear, b_add, b_sub, b_mul, b_eql, b_neq, b_lss, b_leq, b_gtr, b_geq, b_and16, unV, ntouch, gather, hide, unhide, evalOpd, applyOuts, int_bne, int_beq, ite_bool, ite_int, one_bool, cells_bool, one_int, cells_int, one_str, cells_str, one_nilp, cells_nilp, one_ptr, cells_ptr, one_nils, cells_nils, one_sl, cells_sl, one_nilf, cells_nilf, one_fn, cells_fn, one_nili, cells_nili, one_mp, cells_mp, one_nilm, cells_nilm, one_iface, cells_iface, one_vs, cells_vs, one_vp, cells_vp, cells_agg, Nat.testBit, setAt_1, setAt_2, closeds_nil, closeds_cons, closed_bool, closed_int, closed_str, closed_nilp, closed_nils, closed_nilm, closed_nilf, closed_nili, closed_agg, closed_tup, closed_vs, closed_vp, closed_iface, closed_fn, closeds_cI, closeds_cE, viewA_closed, viewR_closed, AV.scal, AV.scal0, fillA, repA, part_bool, part_int, part_str, part_nilp, part_ptr, part_nils, part_sl, part_nilm, part_mp, part_nilf, part_fn, part_nili, part_iface, part_agg, part_vs, part_vp, viewA_sl1, vaSl_cells, wrap_0, wrap_1, wrap_2, wrap_m1, set_last, get_last, er26_0, er26_1, er26_2, er26_3, er26_4, er26_5, er26_6, er26_7, er26_8, er26_9, er26_10, er26_11, er26_12, er26_13, er26_14, er26_15, er26_16, er26_17, er26_19, er26_21, hkN, hElen, hmw, resK, resVs, resV, pack]
end Go.Ai.G
